/- What each function computes, and that the program computes it (part 0). Printed by gen.py, a program of this session. -/
import Derived.Test.YtdoidjpeaakfiaaProg
import Derived.Test.YtdoidjpeaakfiaaMgS
import Derived.Test.YtdoidjpeaakfiaaShelf
set_option linter.unusedVariables false
namespace Go.Proofs.Ytdoidjpeaakfiaa
open Go Go.Mg
theorem el22 : El Try.prog (kI .i64) 22 3 8 := { hi := ⟨_, _, rfl, rfl, rfl, rfl, rfl⟩, hs := by decide, ag := by kernel_rfl, ht := by kernel_rfl }
theorem can14 : CanE Try.prog 14 = true := by kernel_rfl
theorem fol : Try.prog.follows .mixedOrders = true := by kernel_rfl
theorem can31 : CanE Try.prog 31 = true := by kernel_rfl
theorem can33 : CanE Try.prog 33 = true := by kernel_rfl
theorem can16 : CanE Try.prog 16 = true := by kernel_rfl
theorem can29 : CanE Try.prog 29 = true := by kernel_rfl
theorem can30 : CanE Try.prog 30 = true := by kernel_rfl
theorem can32 : CanE Try.prog 32 = true := by kernel_rfl
theorem can12 : CanE Try.prog 12 = true := by kernel_rfl
theorem can13 : CanE Try.prog 13 = true := by kernel_rfl
theorem can11 : CanE Try.prog 11 = true := by kernel_rfl
theorem can35 : CanE Try.prog 35 = true := by kernel_rfl
theorem can25 : CanE Try.prog 25 = true := by kernel_rfl
theorem can15 : CanE Try.prog 15 = true := by kernel_rfl
theorem can17 : CanE Try.prog 17 = true := by kernel_rfl
theorem can18 : CanE Try.prog 18 = true := by kernel_rfl
theorem can19 : CanE Try.prog 19 = true := by kernel_rfl
theorem can20 : CanE Try.prog 20 = true := by kernel_rfl
theorem can26 : CanE Try.prog 26 = true := by kernel_rfl
theorem can34 : CanE Try.prog 34 = true := by kernel_rfl
theorem can21 : CanE Try.prog 21 = true := by kernel_rfl
theorem can22 : CanE Try.prog 22 = true := by kernel_rfl
theorem el36 : El Try.prog (kSl (kI .i64)) 36 22 24 := { hi := ⟨_, _, rfl, rfl, rfl, rfl, rfl⟩, hs := by decide, ag := by kernel_rfl, ht := by kernel_rfl }
theorem can23 : CanE Try.prog 23 = true := by kernel_rfl
theorem can24 : CanE Try.prog 24 = true := by kernel_rfl
theorem can51 : CanE Try.prog 51 = true := by kernel_rfl
theorem can39 : CanE Try.prog 39 = true := by kernel_rfl
theorem can40 : CanE Try.prog 40 = true := by kernel_rfl
theorem can36 : CanE Try.prog 36 = true := by kernel_rfl
theorem can27 : CanE Try.prog 27 = true := by kernel_rfl
theorem can28 : CanE Try.prog 28 = true := by kernel_rfl
noncomputable def post_Right.b2 (a0 : List Int) (x15 : Int) (x16 : Int) : Option ((Int × Int) ⊕ ((Unit) ⊕ (Bool))) :=
  (bif (decide (x16 < (a0.length : Int))) then ((at_ a0 x16).bind fun y28 => (bif (decide (y28 ≤ x15)) then some (.inr (.inr false)) else (pur (IntKind.i64.wrap (x16 + (1 : Int))) fun y38 => some (.inl (y28, y38))))) else some (.inr (.inl ())))
noncomputable def post_Right (a0 : List Int) : Option Bool :=
  ((iter (fun s : Int × Int => post_Right.b2 a0 s.1 s.2) ((-1 : Int), (0 : Int))).bind (Sum.elim (fun o5n => some (decide ((a0.length : Int) ≤ (4096 : Int)))) (fun q => some q)))
set_option maxRecDepth 100000 in
set_option maxHeartbeats 4000000 in
theorem post_Right_w {S : Nat → Prop} {w : World} {a0 : List Int} {v0 : Value} {r : Bool} (hS : Sb S w) (h0 : Sl (kSl (kI .i64)) S w v0 a0) (h : post_Right a0 = some r) :
    Calls Try.prog 14 (List.toArray [v0]) w fun e w1 => ∃ S1, e = .returned (.bool r) ∧ Cx No S w S1 w1 := by
  refine enter Try.func14 rfl (by kernel_rfl) rfl ?_
  have C := Cx.refl (F := No) hS
  unfold post_Right at h
  refine cw_seq fun K1 k2 => ?_
  refine cw_region (sv (asv (.bool false) rfl) (W.e (k2 _ _ ?_)))
  refine cw_seq fun K3 k4 => ?_
  refine cw_region (sv (asv (.int .i64 (-1)) rfl) (W.e (k4 _ _ ?_)))
  obtain ⟨o5, h8, h⟩ := bnds_some h
  refine cw_seq' (fun ρ w1 => ∃ o5n, o5 = (.inl o5n) ∧ ∃ S1, Cx No S w S1 w1 ∧ Has ρ [(0, v0)] ∧ Sl (kSl (kI .i64)) S1 w1 v0 a0) ?_ ?_
  · refine cw_seq fun K9 k10 => ?_
    refine cw_region (sv (mvv v0 rfl) (sv (rv_lenS el22 h0 rfl) (sv (mvv (.int .i64 0) rfl) (W.e (k10 _ _ (cw_block ?_))))))
    refine cw_iter h8 (fun s ρ w1 => ∃ S1, Cx No S w S1 w1 ∧ Has ρ [(0, v0), (3, .int .i64 s.1), (6, v0), (7, .int .i64 (a0.length : Int)), (8, .int .i64 s.2)] ∧ Sl (kSl (kI .i64)) S1 w1 v0 a0) ⟨_, C, ⟨rfl, rfl, rfl, rfl, rfl, trivial⟩, h0⟩ ?_
    rintro ⟨x15, x16⟩ q11 ρ w13 ⟨S12, C, h14, h0⟩ h18 h17
    refine h14.cw fun ρ => ?_
    clear h14
    replace h18 : post_Right.b2 a0 x15 x16 = some q11 := h18
    unfold post_Right.b2 at h18
    refine cw_seq fun K19 k20 => ?_
    refine cw_region (sv (rv_lss rfl rfl) (W.e (k20 _ _ ?_)))
    refine cw_seq fun K21 k22 => ?_
    rcases bif_some h18 with ⟨b23, h18⟩ | ⟨b23, h18⟩
    · refine cw_t rfl b23 (cw_skip (k22 _ _ ?_))
      refine cw_seq fun K24 k25 => ?_
      refine cw_block ?_
      refine cw_seq fun K26 k27 => ?_
      refine cw_region ?_
      obtain ⟨y28, h29, h18⟩ := bnd_some h18
      refine sv (rv_index el22 h0 rfl rfl h29) (sr (rw_loadC el22 h0 h29 rfl _ (Sm.refl _ _)) (sv (asv (.int .i64 y28) rfl) (W.e (k27 _ _ ?_))))
      refine cw_seq fun K30 k31 => ?_
      refine cw_seq fun K32 k33 => ?_
      refine cw_region (sv (mvv (.int .i64 y28) rfl) (sv (mvv (.int .i64 x15) rfl) (sv (rv_leq rfl rfl) (W.e (k33 _ _ ?_)))))
      rcases bif_some h18 with ⟨b34, h18⟩ | ⟨b34, h18⟩
      · refine cw_t rfl b34 ?_
        refine cw_seq fun K35 k36 => ?_
        refine cw_region (sv (asv (.bool false) rfl) (W.e (k36 _ _ (cw_ret ?_))))
        obtain rfl := Option.some.inj h18
        have h37 := congrArg some h17
        obtain rfl := Option.some.inj h37
        replace h := h.2 _ rfl
        obtain rfl := Option.some.inj h
        exact ⟨_, rfl, _, rfl, C⟩
      · refine cw_f rfl b34 (cw_skip (k31 _ _ (cw_region (sv (mvv (.int .i64 y28) rfl) (sv (asv (.int .i64 y28) rfl) (W.e (k25 _ _ (cw_region ?_))))))))
        obtain ⟨y38, h39, h18⟩ := pur_some h18
        refine sv (rv_add rfl rfl h39) (sv (mvv (.int .i64 y38) rfl) (W.e ?_))
        obtain rfl := Option.some.inj h18
        exact ⟨_, rfl, ⟨_, C, ⟨rfl, rfl, rfl, rfl, rfl, trivial⟩, h0⟩⟩
    · refine cw_f rfl b23 (cw_exit ?_)
      obtain rfl := Option.some.inj h18
      have h40 := congrArg some h17
      obtain rfl := Option.some.inj h40
      exact ⟨_, rfl, ⟨_, C, ⟨rfl, trivial⟩, h0⟩⟩
  · rintro ρ w42 ⟨o5n, rfl, ⟨S41, C, h43, h0⟩⟩
    replace h := h.1 _ rfl
    refine h43.cw fun ρ => ?_
    clear h43
    refine cw_seq fun K44 k45 => ?_
    refine cw_region (sv (mvv v0 rfl) (sv (rv_lenS el22 h0 rfl) (sv (rv_leq rfl rfl) (sv (asv (.bool (decide ((a0.length : Int) ≤ (4096 : Int)))) rfl) (W.e (k45 _ _ (cw_ret ?_)))))))
    obtain rfl := Option.some.inj h
    exact ⟨_, rfl, _, rfl, C⟩

noncomputable def post_told (a0 : List Int) : Option ((List Int) × Int) :=
  (bif (decide ((4096 : Int) < (a0.length : Int))) then some (([] : List Int), (3 : Int)) else some (a0, (0 : Int)))
set_option maxRecDepth 100000 in
set_option maxHeartbeats 4000000 in
theorem post_told_w {S : Nat → Prop} {w : World} {a0 : List Int} {v0 : Value} {r : (List Int) × Int} (hS : Sb S w) (h0 : Sl (kSl (kI .i64)) S w v0 a0) (h : post_told a0 = some r) :
    Calls Try.prog 31 (List.toArray [v0]) w fun e w1 => ∃ S1 u0, e = .returned (.tuple (List.toArray [u0, .int .i64 r.2])) ∧ Cx No S w S1 w1 ∧ Sl (kSl (kI .i64)) S1 w1 u0 r.1 := by
  refine enter Try.func31 rfl (by kernel_rfl) rfl ?_
  have C := Cx.refl (F := No) hS
  unfold post_told at h
  refine cw_seq fun K1 k2 => ?_
  refine cw_region (sv (asv (.slice none 0 0) rfl) (sv (asv (.int .i64 0) rfl) (W.e (k2 _ _ ?_))))
  refine cw_seq fun K3 k4 => ?_
  refine cw_seq fun K5 k6 => ?_
  refine cw_region (sv (mvv v0 rfl) (sv (rv_lenS el22 h0 rfl) (sv (rv_gtr rfl rfl) (W.e (k6 _ _ ?_)))))
  rcases bif_some h with ⟨b7, h⟩ | ⟨b7, h⟩
  · refine cw_t rfl b7 ?_
    refine cw_seq fun K8 k9 => ?_
    refine cw_region (sv (asv (.slice none 0 0) rfl) (sv (asv (.int .i64 3) rfl) (W.e (k9 _ _ (cw_ret ?_)))))
    obtain rfl := Option.some.inj h
    exact ⟨_, rfl, _, _, rfl, C, (sl_nil _ _ _)⟩
  · refine cw_f rfl b7 (cw_skip (k4 _ _ ?_))
    refine cw_seq fun K10 k11 => ?_
    refine cw_region (sv (mvv v0 rfl) (sv (asv v0 rfl) (sv (asv (.int .i64 0) rfl) (W.e (k11 _ _ (cw_ret ?_))))))
    obtain rfl := Option.some.inj h
    exact ⟨_, rfl, _, _, rfl, C, h0⟩

noncomputable def post_merge.b4 (a2 : Bool) (a3 : Bool) (a4 : Bool) (x47 : List Int) (x48 : List Int) (x49 : List Int) : Option (((List Int) × (List Int) × (List Int)) ⊕ ((List Int) × (List Int) × (List Int))) :=
  (((bif (decide ((0 : Int) < (x47.length : Int))) then some (decide ((0 : Int) < (x48.length : Int))) else some false).bind fun o56 => (bif o56 then some (.inl ()) else some (.inr (.inr (x47, x48, x49))))).bind (Sum.elim (fun o52n => ((at_ x47 (0 : Int)).bind fun y74 => ((at_ x48 (0 : Int)).bind fun y76 => (bif (decide (y74 < y76)) then ((bif a2 then ((app_ 8 x49 ([y74] : List Int)).bind fun y94 => some y94) else some x49).bind fun o81 => ((from_ x47 (1 : Int)).bind fun y107 => some (.inl (y107, x48, o81)))) else (bif (decide (y76 < y74)) then ((bif a4 then ((app_ 8 x49 ([y76] : List Int)).bind fun y128 => some y128) else some x49).bind fun o115 => ((from_ x48 (1 : Int)).bind fun y141 => some (.inl (x47, y141, o115)))) else ((bif a3 then ((app_ 8 x49 ([y74] : List Int)).bind fun y159 => some y159) else some x49).bind fun o146 => ((from_ x47 (1 : Int)).bind fun y175 => ((from_ x48 (1 : Int)).bind fun y180 => some (.inl (y175, y180, o146)))))))))) (fun q => some q)))
noncomputable def post_merge (a0 : List Int) (a1 : List Int) (a2 : Bool) (a3 : Bool) (a4 : Bool) : Option ((List Int) × Int) :=
  ((((post_Right a0).bind fun y11 => (bif (!y11) then some true else ((post_Right a1).bind fun y17 => some (!y17)))).bind fun o7 => (bif o7 then some (.inr (([] : List Int), (1 : Int))) else some (.inl ()))).bind (Sum.elim (fun o3n => ((iter (fun s : (List Int) × (List Int) × (List Int) => post_merge.b4 a2 a3 a4 s.1 s.2.1 s.2.2) (a0, a1, ([] : List Int))).bind fun o33 => ((bif a2 then ((app_ 8 o33.2.2 o33.1).bind fun y201 => some y201) else some o33.2.2).bind fun o194 => ((bif a4 then ((app_ 8 o194 o33.2.1).bind fun y221 => some y221) else some o194).bind fun o214 => ((post_told o214).bind fun y236 => some (y236.1, y236.2)))))) (fun q => some q)))
set_option maxRecDepth 100000 in
set_option maxHeartbeats 4000000 in
theorem post_merge_w {S : Nat → Prop} {w : World} {a0 : List Int} {a1 : List Int} {a2 : Bool} {a3 : Bool} {a4 : Bool} {v0 v1 : Value} {r : (List Int) × Int} (hS : Sb S w) (h0 : Sl (kSl (kI .i64)) S w v0 a0) (h1 : Sl (kSl (kI .i64)) S w v1 a1) (h : post_merge a0 a1 a2 a3 a4 = some r) :
    Calls Try.prog 33 (List.toArray [v0, v1, .bool a2, .bool a3, .bool a4]) w fun e w1 => ∃ S1 u0, e = .returned (.tuple (List.toArray [u0, .int .i64 r.2])) ∧ Cx No S w S1 w1 ∧ Sl (kSl (kI .i64)) S1 w1 u0 r.1 := by
  refine enter Try.func33 rfl (by kernel_rfl) rfl ?_
  have C := Cx.refl (F := No) hS
  unfold post_merge at h
  refine cw_seq fun K1 k2 => ?_
  refine cw_region (sv (asv (.slice none 0 0) rfl) (sv (asv (.int .i64 0) rfl) (W.e (k2 _ _ ?_))))
  obtain ⟨o3, h6, h⟩ := bnds_some h
  refine cw_seq' (fun ρ w1 => ∃ o3n, o3 = (.inl o3n) ∧ ∃ S1, Cx No S w S1 w1 ∧ Has ρ [(0, v0), (1, v1), (2, .bool a2), (3, .bool a3), (4, .bool a4)] ∧ Sl (kSl (kI .i64)) S1 w1 v0 a0 ∧ Sl (kSl (kI .i64)) S1 w1 v1 a1) ?_ ?_
  · obtain ⟨o7, h10, h6⟩ := bnd_some h6
    refine cw_seq' (fun ρ w1 => ∃ S1, Cx No S w S1 w1 ∧ Has ρ [(0, v0), (1, v1), (2, .bool a2), (3, .bool a3), (4, .bool a4), (22, .bool o7)] ∧ Sl (kSl (kI .i64)) S1 w1 v0 a0 ∧ Sl (kSl (kI .i64)) S1 w1 v1 a1) ?_ ?_
    · refine cw_region (sv (mvv v0 rfl) ?_)
      obtain ⟨y11, h12, h10⟩ := bnd_some h10
      refine sc (dc_call (vs := [v0]) can14 rfl ?_)
      refine (post_Right_w C.sb h0 h12).mono ?_
      rintro _ w13 ⟨S14, rfl, c15⟩
      refine ⟨_, rfl, ?_⟩
      replace h0 := h0.cx c15
      replace h1 := h1.cx c15
      replace C := C.trans c15
      refine sv (rv_not rfl) (sv (mvv (.bool (!y11)) rfl) ?_)
      rcases bif_some h10 with ⟨b16, h10⟩ | ⟨b16, h10⟩
      · refine W.n (gn rfl rfl rfl b16) (W.n (gn rfl rfl rfl b16) (W.n (gn rfl rfl rfl b16) (sv (ptk (.bool true) rfl b16 rfl) (W.e ?_))))
        obtain rfl := Option.some.inj h10
        exact ⟨_, C, ⟨rfl, rfl, rfl, rfl, rfl, rfl, trivial⟩, h0, h1⟩
      · refine W.v (gy rfl rfl rfl b16) (mvv v1 rfl) ?_
        obtain ⟨y17, h18, h10⟩ := bnd_some h10
        refine W.c (gy rfl rfl rfl b16) (dc_call (vs := [v1]) can14 rfl ?_)
        refine (post_Right_w C.sb h1 h18).mono ?_
        rintro _ w19 ⟨S20, rfl, c21⟩
        refine ⟨_, rfl, ?_⟩
        replace h0 := h0.cx c21
        replace h1 := h1.cx c21
        replace C := C.trans c21
        refine W.v (gy rfl rfl rfl b16) (rv_not rfl) (sv (pfk (.bool (!y17)) rfl b16 rfl) (W.e ?_))
        obtain rfl := Option.some.inj h10
        exact ⟨_, C, ⟨rfl, rfl, rfl, rfl, rfl, rfl, trivial⟩, h0, h1⟩
    · rintro ρ w23 ⟨S22, C, h24, h0, h1⟩
      refine h24.cw fun ρ => ?_
      clear h24
      rcases bif_some h6 with ⟨b25, h6⟩ | ⟨b25, h6⟩
      · refine cw_t rfl b25 ?_
        refine cw_seq fun K26 k27 => ?_
        refine cw_region (sv (asv (.slice none 0 0) rfl) (sv (asv (.int .i64 1) rfl) (W.e (k27 _ _ (cw_ret ?_)))))
        obtain rfl := Option.some.inj h6
        replace h := h.2 _ rfl
        obtain rfl := Option.some.inj h
        exact ⟨_, rfl, _, _, rfl, C, (sl_nil _ _ _)⟩
      · refine cw_f rfl b25 (cw_skip ?_)
        obtain rfl := Option.some.inj h6
        exact ⟨_, rfl, ⟨_, C, ⟨rfl, rfl, rfl, rfl, rfl, trivial⟩, h0, h1⟩⟩
  · rintro ρ w29 ⟨o3n, rfl, ⟨S28, C, h30, h0, h1⟩⟩
    replace h := h.1 _ rfl
    refine h30.cw fun ρ => ?_
    clear h30
    refine cw_seq fun K31 k32 => ?_
    refine cw_region (sv (asv (.slice none 0 0) rfl) (W.e (k32 _ _ ?_)))
    obtain ⟨o33, h36, h⟩ := bnd_some h
    refine cw_seq' (fun ρ w1 => ∃ S1 v187 v189 v191, Cx No S w S1 w1 ∧ Has ρ [(0, v187), (1, v189), (2, .bool a2), (4, .bool a4), (12, v191)] ∧ Sl (kSl (kI .i64)) S1 w1 v187 o33.1 ∧ Sl (kSl (kI .i64)) S1 w1 v189 o33.2.1 ∧ Ow (kI .i64) 3 S1 w.heap.size w1 v191 o33.2.2) ?_ ?_
    · refine cw_block ?_
      refine cw_iter h36 (fun s ρ w1 => ∃ S1 v40 v42 v44, Cx No S w S1 w1 ∧ Has ρ [(0, v40), (1, v42), (2, .bool a2), (3, .bool a3), (4, .bool a4), (12, v44)] ∧ Sl (kSl (kI .i64)) S1 w1 v40 s.1 ∧ Sl (kSl (kI .i64)) S1 w1 v42 s.2.1 ∧ Ow (kI .i64) 3 S1 w.heap.size w1 v44 s.2.2) ⟨_, _, _, _, C, ⟨rfl, rfl, rfl, rfl, rfl, rfl, trivial⟩, h0, h1, Ow.nil _ _ _ _ _⟩ ?_
      rintro ⟨x47, x48, x49⟩ q37 ρ w39 ⟨S38, v40, v42, v44, C, h46, h41, h43, h45⟩ h51 h50
      refine h46.cw fun ρ => ?_
      clear h46
      replace h51 : post_merge.b4 a2 a3 a4 x47 x48 x49 = some q37 := h51
      unfold post_merge.b4 at h51
      obtain ⟨o52, h55, h51⟩ := bnds_some h51
      refine cw_seq' (fun ρ w1 => ∃ o52n, o52 = (.inl o52n) ∧ ∃ S1, Cx No S w S1 w1 ∧ Has ρ [(0, v40), (1, v42), (2, .bool a2), (3, .bool a3), (4, .bool a4), (12, v44)] ∧ Sl (kSl (kI .i64)) S1 w1 v40 x47 ∧ Sl (kSl (kI .i64)) S1 w1 v42 x48 ∧ Ow (kI .i64) 3 S1 w.heap.size w1 v44 x49) ?_ ?_
      · obtain ⟨o56, h59, h55⟩ := bnd_some h55
        refine cw_seq' (fun ρ w1 => ∃ S1, Cx No S w S1 w1 ∧ Has ρ [(0, v40), (1, v42), (2, .bool a2), (3, .bool a3), (4, .bool a4), (12, v44), (30, .bool o56)] ∧ Sl (kSl (kI .i64)) S1 w1 v40 x47 ∧ Sl (kSl (kI .i64)) S1 w1 v42 x48 ∧ Ow (kI .i64) 3 S1 w.heap.size w1 v44 x49) ?_ ?_
        · refine cw_region (sv (mvv v40 rfl) (sv (rv_lenS el22 h41 rfl) (sv (rv_gtr rfl rfl) (sv (mvv (.bool (decide ((0 : Int) < (x47.length : Int)))) rfl) ?_))))
          rcases bif_some h59 with ⟨b60, h59⟩ | ⟨b60, h59⟩
          · refine W.v (gy rfl rfl rfl b60) (mvv v42 rfl) (W.v (gy rfl rfl rfl b60) (rv_lenS el22 h43 rfl) (W.v (gy rfl rfl rfl b60) (rv_gtr rfl rfl) (sv (ptk (.bool (decide ((0 : Int) < (x48.length : Int)))) rfl b60 rfl) (W.e ?_))))
            obtain rfl := Option.some.inj h59
            exact ⟨_, C, ⟨rfl, rfl, rfl, rfl, rfl, rfl, rfl, trivial⟩, h41, h43, h45⟩
          · refine W.n (gn rfl rfl rfl b60) (W.n (gn rfl rfl rfl b60) (W.n (gn rfl rfl rfl b60) (sv (pfk (.bool false) rfl b60 rfl) (W.e ?_))))
            obtain rfl := Option.some.inj h59
            exact ⟨_, C, ⟨rfl, rfl, rfl, rfl, rfl, rfl, rfl, trivial⟩, h41, h43, h45⟩
        · rintro ρ w62 ⟨S61, C, h63, h41, h43, h45⟩
          refine h63.cw fun ρ => ?_
          clear h63
          rcases bif_some h55 with ⟨b64, h55⟩ | ⟨b64, h55⟩
          · refine cw_t rfl b64 (cw_skip ?_)
            obtain rfl := Option.some.inj h55
            exact ⟨_, rfl, ⟨_, C, ⟨rfl, rfl, rfl, rfl, rfl, rfl, trivial⟩, h41, h43, h45⟩⟩
          · refine cw_f rfl b64 (cw_exit ?_)
            obtain rfl := Option.some.inj h55
            replace h51 := h51.2 _ rfl
            obtain rfl := Option.some.inj h51
            have h65 := congrArg some h50
            obtain rfl := Option.some.inj h65
            exact ⟨_, _, _, _, C, ⟨rfl, rfl, rfl, rfl, rfl, trivial⟩, h41, h43, h45⟩
      · rintro ρ w67 ⟨o52n, rfl, ⟨S66, C, h68, h41, h43, h45⟩⟩
        replace h51 := h51.1 _ rfl
        refine h68.cw fun ρ => ?_
        clear h68
        refine cw_block ?_
        refine cw_seq fun K69 k70 => ?_
        refine cw_draw' [(0, true), (1, true), (2, true), (3, true), (4, true), (5, true), (6, true), (7, true)] fol (by kernel_rfl) fun w71 u72 => ?_
        replace h41 := h41.nw u72
        replace h43 := h43.nw u72
        replace h45 := h45.nw u72
        replace C := C.new u72
        refine ⟨Sm S66 w71, Sm.refl _ _, ?_⟩
        refine msv rfl (mvv v40 rfl) ?_
        obtain ⟨y74, h75, h51⟩ := bnd_some h51
        refine msv rfl (rv_index el22 h41 rfl rfl h75) (msr rfl (fun w' hw => rw_loadC el22 h41 h75 rfl w' hw) (msv rfl (mvv v42 rfl) ?_))
        obtain ⟨y76, h77, h51⟩ := bnd_some h51
        refine msv rfl (rv_index el22 h43 rfl rfl h77) (msr rfl (fun w' hw => rw_loadC el22 h43 h77 rfl w' hw) (msv rfl (asv (.int .i64 y74) rfl) (msv rfl (asv (.int .i64 y76) rfl) (M.e (k70 _ _ (cw_block ?_))))))
        refine cw_seq fun K78 k79 => ?_
        refine cw_region (sv (mvv (.int .i64 y74) rfl) (sv (mvv (.int .i64 y76) rfl) (sv (rv_lss rfl rfl) (sv (asv (.bool (decide (y74 < y76))) rfl) (W.e (k79 _ _ ?_))))))
        rcases bif_some h51 with ⟨b80, h51⟩ | ⟨b80, h51⟩
        · refine cw_t rfl b80 ?_
          obtain ⟨o81, h84, h51⟩ := bnd_some h51
          refine cw_seq' (fun ρ w1 => ∃ S1 v104, Cx No S w S1 w1 ∧ Has ρ [(0, v40), (1, v42), (2, .bool a2), (3, .bool a3), (4, .bool a4), (12, v104)] ∧ Sl (kSl (kI .i64)) S1 w1 v40 x47 ∧ Sl (kSl (kI .i64)) S1 w1 v42 x48 ∧ Ow (kI .i64) 3 S1 w.heap.size w1 v104 o81) ?_ ?_
          · refine cw_seq fun K85 k86 => ?_
            refine cw_region (sv (mvv (.bool a2) rfl) (W.e (k86 _ _ ?_)))
            rcases bif_some h84 with ⟨b87, h84⟩ | ⟨b87, h84⟩
            · refine cw_t rfl b87 (cw_region (sv (mvv v44 rfl) (sv (mvv (.int .i64 y74) rfl) ?_)))
              refine sc (dc_lit (vs := [.int .i64 y74]) (xs := ([y74] : List Int)) (base := w.heap.size) el22 rfl rfl (.cons (sl_sc.2 rfl) (.nil)) (Nat.le_of_ble_eq_true rfl) C.up.size C.sb fun v88 w89 h90 h91 u92 => ?_)
              have p93 := Ap.new h91 h45
              replace h41 := h41.nw u92
              replace h43 := h43.nw u92
              replace h45 := h45.nw u92
              replace C := C.new u92
              obtain ⟨y94, h95, h84⟩ := bnd_some h84
              have h101 := h45
              refine sc (dc_append el22 (by decide) h101 h90.src rfl rfl h95 C.up.size C.sb fun v96 w97 h98 u99 h100 => ?_)
              replace h41 := h41.wr u99 h101.not
              replace h43 := h43.wr u99 h101.not
              replace C := C.ow h101 u99
              refine sv (asv v96 rfl) (W.e ?_)
              obtain rfl := Option.some.inj h84
              exact ⟨_, _, C, ⟨rfl, rfl, rfl, rfl, rfl, rfl, trivial⟩, h41, h43, h98⟩
            · refine cw_f rfl b87 (cw_skip ?_)
              obtain rfl := Option.some.inj h84
              exact ⟨_, _, C, ⟨rfl, rfl, rfl, rfl, rfl, rfl, trivial⟩, h41, h43, h45⟩
          · rintro ρ w103 ⟨S102, v104, C, h106, h41, h43, h105⟩
            refine h106.cw fun ρ => ?_
            clear h106
            refine cw_region (sv (mvv v40 rfl) ?_)
            obtain ⟨y107, h108, h51⟩ := bnd_some h51
            obtain ⟨v109, h110, h111⟩ := rv_fromA (P := Try.prog) el22 h41 h108
            refine sv (h111 rfl rfl) (sv (asv v109 rfl) (W.e ?_))
            obtain rfl := Option.some.inj h51
            exact ⟨_, rfl, ⟨_, _, _, _, C, ⟨rfl, rfl, rfl, rfl, rfl, rfl, trivial⟩, h110, h43, h105⟩⟩
        · refine cw_f rfl b80 ?_
          refine cw_seq fun K112 k113 => ?_
          refine cw_region (sv (mvv (.int .i64 y74) rfl) (sv (mvv (.int .i64 y76) rfl) (sv (rv_gtr rfl rfl) (sv (asv (.bool (decide (y76 < y74))) rfl) (W.e (k113 _ _ ?_))))))
          rcases bif_some h51 with ⟨b114, h51⟩ | ⟨b114, h51⟩
          · refine cw_t rfl b114 ?_
            obtain ⟨o115, h118, h51⟩ := bnd_some h51
            refine cw_seq' (fun ρ w1 => ∃ S1 v138, Cx No S w S1 w1 ∧ Has ρ [(0, v40), (1, v42), (2, .bool a2), (3, .bool a3), (4, .bool a4), (12, v138)] ∧ Sl (kSl (kI .i64)) S1 w1 v40 x47 ∧ Sl (kSl (kI .i64)) S1 w1 v42 x48 ∧ Ow (kI .i64) 3 S1 w.heap.size w1 v138 o115) ?_ ?_
            · refine cw_seq fun K119 k120 => ?_
              refine cw_region (sv (mvv (.bool a4) rfl) (W.e (k120 _ _ ?_)))
              rcases bif_some h118 with ⟨b121, h118⟩ | ⟨b121, h118⟩
              · refine cw_t rfl b121 (cw_region (sv (mvv v44 rfl) (sv (mvv (.int .i64 y76) rfl) ?_)))
                refine sc (dc_lit (vs := [.int .i64 y76]) (xs := ([y76] : List Int)) (base := w.heap.size) el22 rfl rfl (.cons (sl_sc.2 rfl) (.nil)) (Nat.le_of_ble_eq_true rfl) C.up.size C.sb fun v122 w123 h124 h125 u126 => ?_)
                have p127 := Ap.new h125 h45
                replace h41 := h41.nw u126
                replace h43 := h43.nw u126
                replace h45 := h45.nw u126
                replace C := C.new u126
                obtain ⟨y128, h129, h118⟩ := bnd_some h118
                have h135 := h45
                refine sc (dc_append el22 (by decide) h135 h124.src rfl rfl h129 C.up.size C.sb fun v130 w131 h132 u133 h134 => ?_)
                replace h41 := h41.wr u133 h135.not
                replace h43 := h43.wr u133 h135.not
                replace C := C.ow h135 u133
                refine sv (asv v130 rfl) (W.e ?_)
                obtain rfl := Option.some.inj h118
                exact ⟨_, _, C, ⟨rfl, rfl, rfl, rfl, rfl, rfl, trivial⟩, h41, h43, h132⟩
              · refine cw_f rfl b121 (cw_skip ?_)
                obtain rfl := Option.some.inj h118
                exact ⟨_, _, C, ⟨rfl, rfl, rfl, rfl, rfl, rfl, trivial⟩, h41, h43, h45⟩
            · rintro ρ w137 ⟨S136, v138, C, h140, h41, h43, h139⟩
              refine h140.cw fun ρ => ?_
              clear h140
              refine cw_region (sv (mvv v42 rfl) ?_)
              obtain ⟨y141, h142, h51⟩ := bnd_some h51
              obtain ⟨v143, h144, h145⟩ := rv_fromA (P := Try.prog) el22 h43 h142
              refine sv (h145 rfl rfl) (sv (asv v143 rfl) (W.e ?_))
              obtain rfl := Option.some.inj h51
              exact ⟨_, rfl, ⟨_, _, _, _, C, ⟨rfl, rfl, rfl, rfl, rfl, rfl, trivial⟩, h41, h144, h139⟩⟩
          · refine cw_f rfl b114 ?_
            obtain ⟨o146, h149, h51⟩ := bnd_some h51
            refine cw_seq' (fun ρ w1 => ∃ S1 v169, Cx No S w S1 w1 ∧ Has ρ [(0, v40), (1, v42), (2, .bool a2), (3, .bool a3), (4, .bool a4), (12, v169)] ∧ Sl (kSl (kI .i64)) S1 w1 v40 x47 ∧ Sl (kSl (kI .i64)) S1 w1 v42 x48 ∧ Ow (kI .i64) 3 S1 w.heap.size w1 v169 o146) ?_ ?_
            · refine cw_seq fun K150 k151 => ?_
              refine cw_region (sv (mvv (.bool a3) rfl) (W.e (k151 _ _ ?_)))
              rcases bif_some h149 with ⟨b152, h149⟩ | ⟨b152, h149⟩
              · refine cw_t rfl b152 (cw_region (sv (mvv v44 rfl) (sv (mvv (.int .i64 y74) rfl) ?_)))
                refine sc (dc_lit (vs := [.int .i64 y74]) (xs := ([y74] : List Int)) (base := w.heap.size) el22 rfl rfl (.cons (sl_sc.2 rfl) (.nil)) (Nat.le_of_ble_eq_true rfl) C.up.size C.sb fun v153 w154 h155 h156 u157 => ?_)
                have p158 := Ap.new h156 h45
                replace h41 := h41.nw u157
                replace h43 := h43.nw u157
                replace h45 := h45.nw u157
                replace C := C.new u157
                obtain ⟨y159, h160, h149⟩ := bnd_some h149
                have h166 := h45
                refine sc (dc_append el22 (by decide) h166 h155.src rfl rfl h160 C.up.size C.sb fun v161 w162 h163 u164 h165 => ?_)
                replace h41 := h41.wr u164 h166.not
                replace h43 := h43.wr u164 h166.not
                replace C := C.ow h166 u164
                refine sv (asv v161 rfl) (W.e ?_)
                obtain rfl := Option.some.inj h149
                exact ⟨_, _, C, ⟨rfl, rfl, rfl, rfl, rfl, rfl, trivial⟩, h41, h43, h163⟩
              · refine cw_f rfl b152 (cw_skip ?_)
                obtain rfl := Option.some.inj h149
                exact ⟨_, _, C, ⟨rfl, rfl, rfl, rfl, rfl, rfl, trivial⟩, h41, h43, h45⟩
            · rintro ρ w168 ⟨S167, v169, C, h171, h41, h43, h170⟩
              refine h171.cw fun ρ => ?_
              clear h171
              refine cw_draw' [(0, true), (1, true), (2, true), (3, true), (4, true), (5, true)] fol (by kernel_rfl) fun w172 u173 => ?_
              replace h41 := h41.nw u173
              replace h43 := h43.nw u173
              replace h170 := h170.nw u173
              replace C := C.new u173
              refine ⟨Sm S167 w172, Sm.refl _ _, ?_⟩
              refine msv rfl (mvv v40 rfl) ?_
              obtain ⟨y175, h176, h51⟩ := bnd_some h51
              obtain ⟨v177, h178, h179⟩ := rv_fromA (P := Try.prog) el22 h41 h176
              refine msv rfl (h179 rfl rfl) (msv rfl (mvv v42 rfl) ?_)
              obtain ⟨y180, h181, h51⟩ := bnd_some h51
              obtain ⟨v182, h183, h184⟩ := rv_fromA (P := Try.prog) el22 h43 h181
              refine msv rfl (h184 rfl rfl) (msv rfl (asv v177 rfl) (msv rfl (asv v182 rfl) (M.e ?_)))
              obtain rfl := Option.some.inj h51
              exact ⟨_, rfl, ⟨_, _, _, _, C, ⟨rfl, rfl, rfl, rfl, rfl, rfl, trivial⟩, h178, h183, h170⟩⟩
    · rintro ρ w186 ⟨S185, v187, v189, v191, C, h193, h188, h190, h192⟩
      refine h193.cw fun ρ => ?_
      clear h193
      obtain ⟨o194, h197, h⟩ := bnd_some h
      refine cw_seq' (fun ρ w1 => ∃ S1 v211, Cx No S w S1 w1 ∧ Has ρ [(1, v189), (4, .bool a4), (12, v211)] ∧ Sl (kSl (kI .i64)) S1 w1 v189 o33.2.1 ∧ Ow (kI .i64) 3 S1 w.heap.size w1 v211 o194) ?_ ?_
      · refine cw_seq fun K198 k199 => ?_
        refine cw_region (sv (mvv (.bool a2) rfl) (W.e (k199 _ _ ?_)))
        rcases bif_some h197 with ⟨b200, h197⟩ | ⟨b200, h197⟩
        · refine cw_t rfl b200 (cw_region (sv (mvv v191 rfl) (sv (mvv v187 rfl) ?_)))
          obtain ⟨y201, h202, h197⟩ := bnd_some h197
          have h208 := h192
          refine sc (dc_append el22 (by decide) h208 (h188.src fun _ h => h) rfl rfl h202 C.up.size C.sb fun v203 w204 h205 u206 h207 => ?_)
          replace h190 := h190.wr u206 h208.not
          replace C := C.ow h208 u206
          refine sv (asv v203 rfl) (W.e ?_)
          obtain rfl := Option.some.inj h197
          exact ⟨_, _, C, ⟨rfl, rfl, rfl, trivial⟩, h190, h205⟩
        · refine cw_f rfl b200 (cw_skip ?_)
          obtain rfl := Option.some.inj h197
          exact ⟨_, _, C, ⟨rfl, rfl, rfl, trivial⟩, h190, h192⟩
      · rintro ρ w210 ⟨S209, v211, C, h213, h190, h212⟩
        refine h213.cw fun ρ => ?_
        clear h213
        obtain ⟨o214, h217, h⟩ := bnd_some h
        refine cw_seq' (fun ρ w1 => ∃ S1 v231, Cx No S w S1 w1 ∧ Has ρ [(12, v231)] ∧ Ow (kI .i64) 3 S1 w.heap.size w1 v231 o214) ?_ ?_
        · refine cw_seq fun K218 k219 => ?_
          refine cw_region (sv (mvv (.bool a4) rfl) (W.e (k219 _ _ ?_)))
          rcases bif_some h217 with ⟨b220, h217⟩ | ⟨b220, h217⟩
          · refine cw_t rfl b220 (cw_region (sv (mvv v211 rfl) (sv (mvv v189 rfl) ?_)))
            obtain ⟨y221, h222, h217⟩ := bnd_some h217
            have h228 := h212
            refine sc (dc_append el22 (by decide) h228 (h190.src fun _ h => h) rfl rfl h222 C.up.size C.sb fun v223 w224 h225 u226 h227 => ?_)
            replace C := C.ow h228 u226
            refine sv (asv v223 rfl) (W.e ?_)
            obtain rfl := Option.some.inj h217
            exact ⟨_, _, C, ⟨rfl, trivial⟩, h225⟩
          · refine cw_f rfl b220 (cw_skip ?_)
            obtain rfl := Option.some.inj h217
            exact ⟨_, _, C, ⟨rfl, trivial⟩, h212⟩
        · rintro ρ w230 ⟨S229, v231, C, h233, h232⟩
          refine h233.cw fun ρ => ?_
          clear h233
          refine cw_seq fun K234 k235 => ?_
          refine cw_region (sv (mvv v231 rfl) ?_)
          replace C := C.sealO h232
          replace h232 := h232.sealed
          obtain ⟨y236, h237, h⟩ := bnd_some h
          refine sc (dc_call (vs := [v231]) can31 rfl ?_)
          refine (post_told_w C.sb h232 h237).mono ?_
          rintro _ w238 ⟨S239, v241, rfl, c240, h242⟩
          refine ⟨_, rfl, ?_⟩
          replace C := C.trans c240
          refine sv (rv_extract rfl rfl) (sv (rv_extract rfl rfl) (sv (asv v241 rfl) (sv (asv (.int .i64 y236.2) rfl) (W.e (k235 _ _ (cw_ret ?_))))))
          obtain rfl := Option.some.inj h
          exact ⟨_, rfl, _, _, rfl, C, h242⟩

noncomputable def post_And (a0 : List Int) (a1 : List Int) : Option ((List Int) × Int) :=
  ((post_merge a0 a1 false true false).bind fun y5 => some (y5.1, y5.2))
set_option maxRecDepth 100000 in
set_option maxHeartbeats 4000000 in
theorem post_And_w {S : Nat → Prop} {w : World} {a0 : List Int} {a1 : List Int} {v0 v1 : Value} {r : (List Int) × Int} (hS : Sb S w) (h0 : Sl (kSl (kI .i64)) S w v0 a0) (h1 : Sl (kSl (kI .i64)) S w v1 a1) (h : post_And a0 a1 = some r) :
    Calls Try.prog 16 (List.toArray [v0, v1]) w fun e w1 => ∃ S1 u0, e = .returned (.tuple (List.toArray [u0, .int .i64 r.2])) ∧ Cx No S w S1 w1 ∧ Sl (kSl (kI .i64)) S1 w1 u0 r.1 := by
  refine enter Try.func16 rfl (by kernel_rfl) rfl ?_
  have C := Cx.refl (F := No) hS
  unfold post_And at h
  refine cw_seq fun K1 k2 => ?_
  refine cw_region (sv (asv (.slice none 0 0) rfl) (sv (asv (.int .i64 0) rfl) (W.e (k2 _ _ ?_))))
  refine cw_seq fun K3 k4 => ?_
  refine cw_region (sv (mvv v0 rfl) (sv (mvv v1 rfl) ?_))
  obtain ⟨y5, h6, h⟩ := bnd_some h
  refine sc (dc_call (vs := [v0, v1, .bool false, .bool true, .bool false]) can33 rfl ?_)
  refine (post_merge_w C.sb h0 h1 h6).mono ?_
  rintro _ w7 ⟨S8, v10, rfl, c9, h11⟩
  refine ⟨_, rfl, ?_⟩
  replace C := C.trans c9
  refine sv (rv_extract rfl rfl) (sv (rv_extract rfl rfl) (sv (asv v10 rfl) (sv (asv (.int .i64 y5.2) rfl) (W.e (k4 _ _ (cw_ret ?_))))))
  obtain rfl := Option.some.inj h
  exact ⟨_, rfl, _, _, rfl, C, h11⟩

def slices_Clone_int_int (a0 : List Int) : Option (List Int) := clone_ 8 a0
theorem slices_Clone_int_int_w {S : Nat → Prop} {w : World} {a0 : List Int} {v0 : Value} {r : List Int} (hS : Sb S w) (h0 : Sl (kSl (kI .i64)) S w v0 a0) (h : slices_Clone_int_int a0 = some r) :
    Calls Try.prog 29 (List.toArray [v0]) w fun e w1 => ∃ S1 u0, e = .returned u0 ∧ Cx No S w S1 w1 ∧ Ow (kI .i64) 3 S1 w.heap.size w1 u0 r := by
  refine enter Try.func29 rfl (by kernel_rfl) rfl ?_
  have C := Cx.refl (F := No) hS
  unfold slices_Clone_int_int at h
  refine cw_seq fun K1 k1 => cw_region (sv rv_assign (W.e (k1 _ _ ?_)))
  obtain ⟨A, c, rfl, _, _, hA⟩ := sl_slice.1 h0
  refine cw_seq fun K2 k2 => cw_seq fun K3 k3 => cw_region (sv rv_move (sv (rv_slnil Try.underlying22 rfl rfl) (W.e (k3 _ _ ?_))))
  cases A with
  | none =>
    refine cw_t rfl rfl (cw_seq fun K4 k4 => cw_region (sv rv_assign (W.e (k4 _ _ (cw_ret ?_)))))
    have : a0 = [] := hA.elim (fun h => h) fun ⟨_, _, h, _⟩ => by cases h
    subst this
    obtain rfl := clone_nil h
    exact ⟨_, rfl, S, _, rfl, C, Ow.nil _ _ _ _ _⟩
  | some a =>
    refine cw_f rfl rfl (cw_skip (k2 _ _ ?_))
    refine cw_seq fun K5 k5 => cw_region ?_
    refine sc (dc_lit (vs := []) (xs := ([] : List Int)) (base := w.heap.size) el22 rfl rfl .nil (Nat.le_of_ble_eq_true rfl) C.up.size C.sb fun u w1 ho hb up => ?_)
    replace h0 := h0.nw up
    replace C := C.new up
    refine sv rv_move (sc (dc_append el22 (by decide) ho (h0.src fun _ h => h) rfl rfl (clone_app h) C.up.size C.sb fun u2 w2 ho2 up2 hb2 => ?_))
    replace C := C.ow ho up2
    exact sv rv_assign (W.e (k5 _ _ (cw_ret ⟨_, rfl, S, _, rfl, C, ho2⟩)))

def slices_Sort_int_int (a0 : List Int) : Option (List Int) := some (a0.mergeSort fun x y => decide (x ≤ y))
theorem slices_Sort_int_int_w {S : Nat → Prop} {w : World} {a0 : List Int} {v0 : Value} {base : Nat} {r : List Int} (hS : Sb S w) (h0 : Ow (kI .i64) 3 S base w v0 a0) (h : slices_Sort_int_int a0 = some r) :
    Calls Try.prog 30 (List.toArray [v0]) w fun e w1 => e = .returned (.tuple (List.toArray [])) ∧ Up (Blk v0) w w1 ∧ Ow (kI .i64) 3 S base w1 v0 r :=
  sortI_w Try.slices_Sort_int Try.slices_Sort_int_none hS h0 (Option.some.inj h)

def slices_Compact_int_int (a0 : List Int) : Option (List Int) := some (Lib.compact a0)
theorem slices_Compact_int_int_w {S : Nat → Prop} {w : World} {a0 : List Int} {v0 : Value} {base : Nat} {r : List Int} (hS : Sb S w) (h0 : Ow (kI .i64) 3 S base w v0 a0) (h : slices_Compact_int_int a0 = some r) :
    Calls Try.prog 32 (List.toArray [v0]) w fun e w1 => ∃ u0, e = .returned u0 ∧ Up (Blk v0) w w1 ∧ Ow (kI .i64) 3 S base w1 u0 r ∧ ∀ b, Blk u0 b → Blk v0 b ∨ w.heap.size ≤ b :=
  compactI_w Try.slices_Compact_int Try.slices_Compact_int_empty hS h0 (Option.some.inj h)

noncomputable def post_Of (a0 : List Int) : Option ((List Int) × Int) :=
  ((slices_Clone_int_int a0).bind fun y5 => ((slices_Sort_int_int y5).bind fun y14 => (((bif (decide ((0 : Int) < (y14.length : Int))) then ((at_ y14 (0 : Int)).bind fun y30 => some (decide (y30 < (0 : Int)))) else some false).bind fun o25 => (bif o25 then some (.inr (([] : List Int), (1 : Int))) else some (.inl ()))).bind (Sum.elim (fun o21n => ((slices_Compact_int_int y14).bind fun y43 => ((post_told y43).bind fun y50 => some (y50.1, y50.2)))) (fun q => some q)))))
set_option maxRecDepth 100000 in
set_option maxHeartbeats 4000000 in
theorem post_Of_w {S : Nat → Prop} {w : World} {a0 : List Int} {v0 : Value} {r : (List Int) × Int} (hS : Sb S w) (h0 : Sl (kSl (kI .i64)) S w v0 a0) (h : post_Of a0 = some r) :
    Calls Try.prog 12 (List.toArray [v0]) w fun e w1 => ∃ S1 u0, e = .returned (.tuple (List.toArray [u0, .int .i64 r.2])) ∧ Cx No S w S1 w1 ∧ Sl (kSl (kI .i64)) S1 w1 u0 r.1 := by
  refine enter Try.func12 rfl (by kernel_rfl) rfl ?_
  have C := Cx.refl (F := No) hS
  unfold post_Of at h
  refine cw_seq fun K1 k2 => ?_
  refine cw_region (sv (asv (.slice none 0 0) rfl) (sv (asv (.int .i64 0) rfl) (W.e (k2 _ _ ?_))))
  refine cw_seq fun K3 k4 => ?_
  refine cw_region (sv (mvv v0 rfl) ?_)
  obtain ⟨y5, h6, h⟩ := bnd_some h
  refine sc (dc_call (vs := [v0]) can29 rfl ?_)
  refine (slices_Clone_int_int_w C.sb h0 h6).mono ?_
  rintro _ w7 ⟨S8, v10, rfl, c9, h11⟩
  refine ⟨_, rfl, ?_⟩
  replace C := C.trans c9
  refine sv (asv v10 rfl) (W.e (k4 _ _ ?_))
  refine cw_seq fun K12 k13 => ?_
  refine cw_region (sv (mvv v10 rfl) ?_)
  obtain ⟨y14, h15, h⟩ := bnd_some h
  refine sc (dc_call (vs := [v10]) can30 rfl ?_)
  refine (slices_Sort_int_int_w C.sb h11 h15).mono ?_
  rintro _ w16 ⟨rfl, u17, h18⟩
  refine ⟨_, rfl, ?_⟩
  replace C := C.ow h11 u17
  refine W.e (k13 _ _ ?_)
  obtain ⟨o21, h24, h⟩ := bnds_some h
  refine cw_seq' (fun ρ w1 => ∃ o21n, o21 = (.inl o21n) ∧ ∃ S1, Cx No S w S1 w1 ∧ Has ρ [(4, v10)] ∧ Ow (kI .i64) 3 S1 w.heap.size w1 v10 y14) ?_ ?_
  · obtain ⟨o25, h28, h24⟩ := bnd_some h24
    refine cw_seq' (fun ρ w1 => ∃ S1, Cx No S w S1 w1 ∧ Has ρ [(4, v10), (17, .bool o25)] ∧ Ow (kI .i64) 3 S1 w.heap.size w1 v10 y14) ?_ ?_
    · refine cw_region (sv (mvv v10 rfl) (sv (rv_lenS el22 h18.sealed rfl) (sv (rv_gtr rfl rfl) (sv (mvv (.bool (decide ((0 : Int) < (y14.length : Int)))) rfl) ?_))))
      rcases bif_some h28 with ⟨b29, h28⟩ | ⟨b29, h28⟩
      · refine W.v (gy rfl rfl rfl b29) (mvv v10 rfl) ?_
        obtain ⟨y30, h31, h28⟩ := bnd_some h28
        refine W.v (gy rfl rfl rfl b29) (rv_index el22 h18.sealed rfl rfl h31) (W.r (gy rfl rfl rfl b29) (rw_loadC el22 h18.sealed h31 rfl _ (Sm.refl _ _)) (W.v (gy rfl rfl rfl b29) (rv_lss rfl rfl) (sv (ptk (.bool (decide (y30 < (0 : Int)))) rfl b29 rfl) (W.e ?_))))
        obtain rfl := Option.some.inj h28
        exact ⟨_, C, ⟨rfl, rfl, trivial⟩, h18⟩
      · refine W.n (gn rfl rfl rfl b29) (W.n (gn rfl rfl rfl b29) (W.n (gn rfl rfl rfl b29) (W.n (gn rfl rfl rfl b29) (sv (pfk (.bool false) rfl b29 rfl) (W.e ?_)))))
        obtain rfl := Option.some.inj h28
        exact ⟨_, C, ⟨rfl, rfl, trivial⟩, h18⟩
    · rintro ρ w33 ⟨S32, C, h34, h18⟩
      refine h34.cw fun ρ => ?_
      clear h34
      rcases bif_some h24 with ⟨b35, h24⟩ | ⟨b35, h24⟩
      · refine cw_t rfl b35 ?_
        refine cw_seq fun K36 k37 => ?_
        refine cw_region (sv (asv (.slice none 0 0) rfl) (sv (asv (.int .i64 1) rfl) (W.e (k37 _ _ (cw_ret ?_)))))
        obtain rfl := Option.some.inj h24
        replace h := h.2 _ rfl
        obtain rfl := Option.some.inj h
        exact ⟨_, rfl, _, _, rfl, C, (sl_nil _ _ _)⟩
      · refine cw_f rfl b35 (cw_skip ?_)
        obtain rfl := Option.some.inj h24
        exact ⟨_, rfl, ⟨_, C, ⟨rfl, trivial⟩, h18⟩⟩
  · rintro ρ w39 ⟨o21n, rfl, ⟨S38, C, h40, h18⟩⟩
    replace h := h.1 _ rfl
    refine h40.cw fun ρ => ?_
    clear h40
    refine cw_seq fun K41 k42 => ?_
    refine cw_region (sv (mvv v10 rfl) ?_)
    obtain ⟨y43, h44, h⟩ := bnd_some h
    refine sc (dc_call (vs := [v10]) can32 rfl ?_)
    refine (slices_Compact_int_int_w C.sb h18 h44).mono ?_
    rintro _ w45 ⟨v48, rfl, u46, h47, h49⟩
    refine ⟨_, rfl, ?_⟩
    replace C := C.ow h18 u46
    replace C := C.sealO h47
    replace h47 := h47.sealed
    obtain ⟨y50, h51, h⟩ := bnd_some h
    refine sc (dc_call (vs := [v48]) can31 rfl ?_)
    refine (post_told_w C.sb h47 h51).mono ?_
    rintro _ w52 ⟨S53, v55, rfl, c54, h56⟩
    refine ⟨_, rfl, ?_⟩
    replace C := C.trans c54
    refine sv (rv_extract rfl rfl) (sv (rv_extract rfl rfl) (sv (asv v55 rfl) (sv (asv (.int .i64 y50.2) rfl) (W.e (k42 _ _ (cw_ret ?_))))))
    obtain rfl := Option.some.inj h
    exact ⟨_, rfl, _, _, rfl, C, h56⟩

noncomputable def marigraphref04_Ints.b2 (a0 : List Int) (a1 : List Int) (x20 : Int) : Option ((Int) ⊕ ((Unit) ⊕ (Bool))) :=
  (bif (decide (x20 < (a0.length : Int))) then ((at_ a0 x20).bind fun y35 => ((at_ a1 x20).bind fun y37 => (bif (y35 != y37) then some (.inr (.inr false)) else (pur (IntKind.i64.wrap (x20 + (1 : Int))) fun y43 => some (.inl y43))))) else some (.inr (.inl ())))
noncomputable def marigraphref04_Ints (a0 : List Int) (a1 : List Int) : Option Bool :=
  (bif ((a0.length : Int) != (a1.length : Int)) then some false else ((iter (fun s : Int => marigraphref04_Ints.b2 a0 a1 s) (0 : Int)).bind (Sum.elim (fun o10n => some true) (fun q => some q))))
set_option maxRecDepth 100000 in
set_option maxHeartbeats 4000000 in
theorem marigraphref04_Ints_w {S : Nat → Prop} {w : World} {a0 : List Int} {a1 : List Int} {v0 v1 : Value} {r : Bool} (hS : Sb S w) (h0 : Sl (kSl (kI .i64)) S w v0 a0) (h1 : Sl (kSl (kI .i64)) S w v1 a1) (h : marigraphref04_Ints a0 a1 = some r) :
    Calls Try.prog 13 (List.toArray [v0, v1]) w fun e w1 => ∃ S1, e = .returned (.bool r) ∧ Cx No S w S1 w1 := by
  refine enter Try.func13 rfl (by kernel_rfl) rfl ?_
  have C := Cx.refl (F := No) hS
  unfold marigraphref04_Ints at h
  refine cw_seq fun K1 k2 => ?_
  refine cw_region (sv (asv (.bool false) rfl) (W.e (k2 _ _ ?_)))
  refine cw_seq fun K3 k4 => ?_
  refine cw_seq fun K5 k6 => ?_
  refine cw_region (sv (mvv v0 rfl) (sv (rv_lenS el22 h0 rfl) (sv (mvv v1 rfl) (sv (rv_lenS el22 h1 rfl) (sv (rv_neq rfl rfl) (W.e (k6 _ _ ?_)))))))
  rcases bif_some h with ⟨b7, h⟩ | ⟨b7, h⟩
  · refine cw_t rfl b7 ?_
    refine cw_seq fun K8 k9 => ?_
    refine cw_region (sv (asv (.bool false) rfl) (W.e (k9 _ _ (cw_ret ?_))))
    obtain rfl := Option.some.inj h
    exact ⟨_, rfl, _, rfl, C⟩
  · refine cw_f rfl b7 (cw_skip (k4 _ _ ?_))
    obtain ⟨o10, h13, h⟩ := bnds_some h
    refine cw_seq' (fun ρ w1 => ∃ o10n, o10 = (.inl o10n) ∧ ∃ S1, Cx No S w S1 w1 ∧ Has ρ []) ?_ ?_
    · refine cw_seq fun K14 k15 => ?_
      refine cw_region (sv (asv (.int .i64 0) rfl) (W.e (k15 _ _ (cw_block ?_))))
      refine cw_iter h13 (fun s ρ w1 => ∃ S1, Cx No S w S1 w1 ∧ Has ρ [(0, v0), (1, v1), (5, .int .i64 s)] ∧ Sl (kSl (kI .i64)) S1 w1 v0 a0 ∧ Sl (kSl (kI .i64)) S1 w1 v1 a1) ⟨_, C, ⟨rfl, rfl, rfl, trivial⟩, h0, h1⟩ ?_
      rintro x20 q16 ρ w18 ⟨S17, C, h19, h0, h1⟩ h22 h21
      refine h19.cw fun ρ => ?_
      clear h19
      replace h22 : marigraphref04_Ints.b2 a0 a1 x20 = some q16 := h22
      unfold marigraphref04_Ints.b2 at h22
      refine cw_seq fun K23 k24 => ?_
      refine cw_seq fun K25 k26 => ?_
      refine cw_region (sv (mvv (.int .i64 x20) rfl) (sv (mvv v0 rfl) (sv (rv_lenS el22 h0 rfl) (sv (rv_lss rfl rfl) (W.e (k26 _ _ ?_))))))
      rcases bif_some h22 with ⟨b27, h22⟩ | ⟨b27, h22⟩
      · refine cw_t rfl b27 (cw_skip (k24 _ _ ?_))
        refine cw_seq fun K28 k29 => ?_
        refine cw_block ?_
        refine cw_seq fun K30 k31 => ?_
        refine cw_draw' [(0, true), (1, true), (2, true), (3, true), (4, true), (5, true), (6, true), (7, true), (8, true)] fol (by kernel_rfl) fun w32 u33 => ?_
        replace h0 := h0.nw u33
        replace h1 := h1.nw u33
        replace C := C.new u33
        refine ⟨Sm S17 w32, Sm.refl _ _, ?_⟩
        refine msv rfl (mvv v0 rfl) (msv rfl (mvv (.int .i64 x20) rfl) ?_)
        obtain ⟨y35, h36, h22⟩ := bnd_some h22
        refine msv rfl (rv_index el22 h0 rfl rfl h36) (msr rfl (fun w' hw => rw_loadC el22 h0 h36 rfl w' hw) (msv rfl (mvv v1 rfl) (msv rfl (mvv (.int .i64 x20) rfl) ?_)))
        obtain ⟨y37, h38, h22⟩ := bnd_some h22
        refine msv rfl (rv_index el22 h1 rfl rfl h38) (msr rfl (fun w' hw => rw_loadC el22 h1 h38 rfl w' hw) (msv rfl (rv_neq rfl rfl) (M.e (k31 _ _ ?_))))
        rcases bif_some h22 with ⟨b39, h22⟩ | ⟨b39, h22⟩
        · refine cw_t rfl b39 ?_
          refine cw_seq fun K40 k41 => ?_
          refine cw_region (sv (asv (.bool false) rfl) (W.e (k41 _ _ (cw_ret ?_))))
          obtain rfl := Option.some.inj h22
          have h42 := congrArg some h21
          obtain rfl := Option.some.inj h42
          replace h := h.2 _ rfl
          obtain rfl := Option.some.inj h
          exact ⟨_, rfl, _, rfl, C⟩
        · refine cw_f rfl b39 (cw_skip (k29 _ _ (cw_region (sv (mvv (.int .i64 x20) rfl) ?_))))
          obtain ⟨y43, h44, h22⟩ := pur_some h22
          refine sv (rv_add rfl rfl h44) (sv (asv (.int .i64 y43) rfl) (W.e ?_))
          obtain rfl := Option.some.inj h22
          exact ⟨_, rfl, ⟨_, C, ⟨rfl, rfl, rfl, trivial⟩, h0, h1⟩⟩
      · refine cw_f rfl b27 (cw_exit ?_)
        obtain rfl := Option.some.inj h22
        have h45 := congrArg some h21
        obtain rfl := Option.some.inj h45
        exact ⟨_, rfl, ⟨_, C, trivial⟩⟩
    · rintro ρ w47 ⟨o10n, rfl, ⟨S46, C, h48⟩⟩
      replace h := h.1 _ rfl
      refine h48.cw fun ρ => ?_
      clear h48
      refine cw_seq fun K49 k50 => ?_
      refine cw_region (sv (asv (.bool true) rfl) (W.e (k50 _ _ (cw_ret ?_))))
      obtain rfl := Option.some.inj h
      exact ⟨_, rfl, _, rfl, C⟩

noncomputable def marigraphlaw06_shown  : Option Bool :=
  ((post_And ([(1 : Int), (3 : Int), (5 : Int)] : List Int) ([(3 : Int), (4 : Int), (5 : Int)] : List Int)).bind fun y16 => ((post_Of ([(5 : Int), (1 : Int), (5 : Int)] : List Int)).bind fun y30 => (((marigraphref04_Ints y16.1 ([(3 : Int), (5 : Int)] : List Int)).bind fun y46 => (bif y46 then (bif (y16.2 == (0 : Int)) then ((marigraphref04_Ints y30.1 ([(1 : Int), (5 : Int)] : List Int)).bind fun y58 => (bif y58 then some (y30.2 == (0 : Int)) else some false)) else some false) else some false)).bind fun o37 => some o37)))
set_option maxRecDepth 100000 in
set_option maxHeartbeats 4000000 in
theorem marigraphlaw06_shown_w {S : Nat → Prop} {w : World}  {r : Bool} (hS : Sb S w)  (h : marigraphlaw06_shown = some r) :
    Calls Try.prog 11 (List.toArray []) w fun e w1 => ∃ S1, e = .returned (.bool r) ∧ Cx No S w S1 w1 := by
  refine enter Try.func11 rfl (by kernel_rfl) rfl ?_
  have C := Cx.refl (F := No) hS
  unfold marigraphlaw06_shown at h
  refine cw_seq fun K1 k2 => ?_
  refine cw_region (sv (asv (.bool false) rfl) (W.e (k2 _ _ ?_)))
  refine cw_seq fun K3 k4 => ?_
  refine cw_region ?_
  refine sc (dc_lit (vs := [.int .i64 1, .int .i64 3, .int .i64 5]) (xs := ([(1 : Int), (3 : Int), (5 : Int)] : List Int)) (base := w.heap.size) el22 rfl rfl (.cons (sl_sc.2 rfl) (.cons (sl_sc.2 rfl) (.cons (sl_sc.2 rfl) (.nil)))) (Nat.le_of_ble_eq_true rfl) C.up.size C.sb fun v5 w6 h7 h8 u9 => ?_)
  replace C := C.new u9
  refine sc (dc_lit (vs := [.int .i64 3, .int .i64 4, .int .i64 5]) (xs := ([(3 : Int), (4 : Int), (5 : Int)] : List Int)) (base := w.heap.size) el22 rfl rfl (.cons (sl_sc.2 rfl) (.cons (sl_sc.2 rfl) (.cons (sl_sc.2 rfl) (.nil)))) (Nat.le_of_ble_eq_true rfl) C.up.size C.sb fun v10 w11 h12 h13 u14 => ?_)
  have p15 := Ap.new h13 h7
  replace h7 := h7.nw u14
  replace C := C.new u14
  replace h12 := h12.or p15
  replace C := C.sealO h7
  replace h7 := h7.sealed
  replace h7 := h7.or (T := Blk v10)
  replace C := C.sealO h12
  replace h12 := h12.sealed
  obtain ⟨y16, h17, h⟩ := bnd_some h
  refine sc (dc_call (vs := [v5, v10]) can16 rfl ?_)
  refine (post_And_w C.sb h7 h12 h17).mono ?_
  rintro _ w18 ⟨S19, v21, rfl, c20, h22⟩
  refine ⟨_, rfl, ?_⟩
  replace C := C.trans c20
  refine sv (mvv (.tuple (List.toArray [v21, .int .i64 y16.2])) rfl) (sv (rv_extract rfl rfl) (sv (rv_extract rfl rfl) (sv (asv v21 rfl) (sv (asv (.int .i64 y16.2) rfl) (W.e (k4 _ _ ?_))))))
  refine cw_seq fun K23 k24 => ?_
  refine cw_region ?_
  refine sc (dc_lit (vs := [.int .i64 5, .int .i64 1, .int .i64 5]) (xs := ([(5 : Int), (1 : Int), (5 : Int)] : List Int)) (base := w.heap.size) el22 rfl rfl (.cons (sl_sc.2 rfl) (.cons (sl_sc.2 rfl) (.cons (sl_sc.2 rfl) (.nil)))) (Nat.le_of_ble_eq_true rfl) C.up.size C.sb fun v25 w26 h27 h28 u29 => ?_)
  replace h22 := h22.nw u29
  replace C := C.new u29
  replace h22 := h22.or (T := Blk v25)
  replace C := C.sealO h27
  replace h27 := h27.sealed
  obtain ⟨y30, h31, h⟩ := bnd_some h
  refine sc (dc_call (vs := [v25]) can12 rfl ?_)
  refine (post_Of_w C.sb h27 h31).mono ?_
  rintro _ w32 ⟨S33, v35, rfl, c34, h36⟩
  refine ⟨_, rfl, ?_⟩
  replace h22 := h22.cx c34
  replace C := C.trans c34
  refine sv (mvv (.tuple (List.toArray [v35, .int .i64 y30.2])) rfl) (sv (rv_extract rfl rfl) (sv (rv_extract rfl rfl) (sv (asv v35 rfl) (sv (asv (.int .i64 y30.2) rfl) (W.e (k24 _ _ ?_))))))
  obtain ⟨o37, h40, h⟩ := bnd_some h
  refine cw_seq' (fun ρ w1 => ∃ S1, Cx No S w S1 w1 ∧ Has ρ [(0, .bool o37)]) ?_ ?_
  · refine cw_region (sv (mvv v21 rfl) ?_)
    refine sc (dc_lit (vs := [.int .i64 3, .int .i64 5]) (xs := ([(3 : Int), (5 : Int)] : List Int)) (base := w.heap.size) el22 rfl rfl (.cons (sl_sc.2 rfl) (.cons (sl_sc.2 rfl) (.nil))) (Nat.le_of_ble_eq_true rfl) C.up.size C.sb fun v41 w42 h43 h44 u45 => ?_)
    replace h36 := h36.nw u45
    replace h22 := h22.nw u45
    replace C := C.new u45
    replace h36 := h36.or (T := Blk v41)
    replace h22 := h22.or (T := Blk v41)
    replace C := C.sealO h43
    replace h43 := h43.sealed
    obtain ⟨y46, h47, h40⟩ := bnd_some h40
    refine sc (dc_call (vs := [v21, v41]) can13 rfl ?_)
    refine (marigraphref04_Ints_w C.sb h22 h43 h47).mono ?_
    rintro _ w48 ⟨S49, rfl, c50⟩
    refine ⟨_, rfl, ?_⟩
    replace h36 := h36.cx c50
    replace C := C.trans c50
    refine sv (mvv (.bool y46) rfl) ?_
    rcases bif_some h40 with ⟨b51, h40⟩ | ⟨b51, h40⟩
    · refine W.v (gy rfl rfl rfl b51) (mvv (.int .i64 y16.2) rfl) (W.v (gy rfl rfl rfl b51) (rv_eql rfl rfl) (sv (ptk (.bool (y16.2 == (0 : Int))) rfl b51 rfl) (sv (mvv (.bool (y16.2 == (0 : Int))) rfl) ?_)))
      rcases bif_some h40 with ⟨b52, h40⟩ | ⟨b52, h40⟩
      · refine W.v (gy rfl rfl rfl b52) (mvv v35 rfl) ?_
        refine W.c (gy rfl rfl rfl b52) (dc_lit (vs := [.int .i64 1, .int .i64 5]) (xs := ([(1 : Int), (5 : Int)] : List Int)) (base := w.heap.size) el22 rfl rfl (.cons (sl_sc.2 rfl) (.cons (sl_sc.2 rfl) (.nil))) (Nat.le_of_ble_eq_true rfl) C.up.size C.sb fun v53 w54 h55 h56 u57 => ?_)
        replace h36 := h36.nw u57
        replace C := C.new u57
        replace h36 := h36.or (T := Blk v53)
        replace C := C.sealO h55
        replace h55 := h55.sealed
        obtain ⟨y58, h59, h40⟩ := bnd_some h40
        refine W.c (gy rfl rfl rfl b52) (dc_call (vs := [v35, v53]) can13 rfl ?_)
        refine (marigraphref04_Ints_w C.sb h36 h55 h59).mono ?_
        rintro _ w60 ⟨S61, rfl, c62⟩
        refine ⟨_, rfl, ?_⟩
        replace C := C.trans c62
        refine sv (ptk (.bool y58) rfl b52 rfl) (sv (mvv (.bool y58) rfl) ?_)
        rcases bif_some h40 with ⟨b63, h40⟩ | ⟨b63, h40⟩
        · refine W.v (gy rfl rfl rfl b63) (mvv (.int .i64 y30.2) rfl) (W.v (gy rfl rfl rfl b63) (rv_eql rfl rfl) (sv (ptk (.bool (y30.2 == (0 : Int))) rfl b63 rfl) (sv (asv (.bool (y30.2 == (0 : Int))) rfl) (W.e ?_))))
          obtain rfl := Option.some.inj h40
          exact ⟨_, C, ⟨rfl, trivial⟩⟩
        · refine W.n (gn rfl rfl rfl b63) (W.n (gn rfl rfl rfl b63) (sv (pfk (.bool false) rfl b63 rfl) (sv (asv (.bool false) rfl) (W.e ?_))))
          obtain rfl := Option.some.inj h40
          exact ⟨_, C, ⟨rfl, trivial⟩⟩
      · refine W.n (gn rfl rfl rfl b52) (W.n (gn rfl rfl rfl b52) (W.n (gn rfl rfl rfl b52) (sv (pfk (.bool false) rfl b52 rfl) (sv (mvv (.bool false) rfl) (W.n (gn rfl rfl rfl rfl) (W.n (gn rfl rfl rfl rfl) (sv (pfk (.bool false) rfl rfl rfl) (sv (asv (.bool false) rfl) (W.e ?_)))))))))
        obtain rfl := Option.some.inj h40
        exact ⟨_, C, ⟨rfl, trivial⟩⟩
    · refine W.n (gn rfl rfl rfl b51) (W.n (gn rfl rfl rfl b51) (sv (pfk (.bool false) rfl b51 rfl) (sv (mvv (.bool false) rfl) (W.n (gn rfl rfl rfl rfl) (W.n (gn rfl rfl rfl rfl) (W.n (gn rfl rfl rfl rfl) (sv (pfk (.bool false) rfl rfl rfl) (sv (mvv (.bool false) rfl) (W.n (gn rfl rfl rfl rfl) (W.n (gn rfl rfl rfl rfl) (sv (pfk (.bool false) rfl rfl rfl) ?_)))))))))))
      refine sv (asv (.bool false) rfl) (W.e ?_)
      obtain rfl := Option.some.inj h40
      exact ⟨_, C, ⟨rfl, trivial⟩⟩
  · rintro ρ w65 ⟨S64, C, h66⟩
    refine h66.cw fun ρ => ?_
    clear h66
    refine cw_ret ?_
    obtain rfl := Option.some.inj h
    exact ⟨_, rfl, _, rfl, C⟩

noncomputable def marigraphlaw06_PostOrder (a0 : List Int) (a1 : Int) : Option Bool :=
  ((marigraphlaw06_shown).bind fun y5 => (pur (if (300 : Int) < (a0.length : Int) then (300 : Int) else (a0.length : Int)) fun y12 => ((upto_ a0 y12).bind fun y14 => (pur (IntKind.i64.wrap a1) fun y21 => (pur (IntKind.i64.wrap ((y14.length : Int) + (1 : Int))) fun y23 => ((nz_ y23 (Int.tmod y21 y23)).bind fun y25 => ((post_Of y14).bind fun y30 => ((from_ y14 y25).bind fun y42 => ((upto_ y14 y25).bind fun y47 => ((from_ y14 y25).bind fun y52 => ((app_ 8 ([] : List Int) y42).bind fun y62 => ((app_ 8 y62 y47).bind fun y70 => ((app_ 8 y70 y52).bind fun y78 => ((post_Of y78).bind fun y86 => ((bif y5 then (bif (y30.2 == y86.2) then ((marigraphref04_Ints y30.1 y86.1).bind fun y99 => (bif y99 then (bif (y30.2 != (0 : Int)) then some true else ((post_Right y30.1).bind fun y106 => some y106)) else some false)) else some false) else some false).bind fun o93 => some o93)))))))))))))))
set_option maxRecDepth 100000 in
set_option maxHeartbeats 4000000 in
theorem marigraphlaw06_PostOrder_w {S : Nat → Prop} {w : World} {a0 : List Int} {a1 : Int} {v0 : Value} {r : Bool} (hS : Sb S w) (h0 : Sl (kSl (kI .i64)) S w v0 a0) (h : marigraphlaw06_PostOrder a0 a1 = some r) :
    Calls Try.prog 3 (List.toArray [v0, .int .u16 a1]) w fun e w1 => ∃ S1, e = .returned (.bool r) ∧ Cx No S w S1 w1 := by
  refine enter Try.func3 rfl (by kernel_rfl) rfl ?_
  have C := Cx.refl (F := No) hS
  unfold marigraphlaw06_PostOrder at h
  refine cw_seq fun K1 k2 => ?_
  refine cw_region (sv (asv (.bool false) rfl) (W.e (k2 _ _ ?_)))
  refine cw_seq fun K3 k4 => ?_
  refine cw_region ?_
  obtain ⟨y5, h6, h⟩ := bnd_some h
  refine sc (dc_call (vs := []) can11 rfl ?_)
  refine (marigraphlaw06_shown_w C.sb  h6).mono ?_
  rintro _ w7 ⟨S8, rfl, c9⟩
  refine ⟨_, rfl, ?_⟩
  replace h0 := h0.cx c9
  replace C := C.trans c9
  refine sv (asv (.bool y5) rfl) (W.e (k4 _ _ ?_))
  refine cw_seq fun K10 k11 => ?_
  refine cw_region (sv (mvv v0 rfl) (sv (mvv v0 rfl) (sv (rv_lenS el22 h0 rfl) ?_)))
  obtain ⟨y12, h13, h⟩ := pur_some h
  refine sv (rv_min rfl rfl h13) ?_
  obtain ⟨y14, h15, h⟩ := bnd_some h
  obtain ⟨v16, h17, h18⟩ := rv_uptoA (P := Try.prog) el22 h0 h15
  refine sv (h18 rfl rfl) (sv (asv v16 rfl) (W.e (k11 _ _ ?_)))
  refine cw_seq fun K19 k20 => ?_
  refine cw_region (sv (mvv (.int .u16 a1) rfl) ?_)
  obtain ⟨y21, h22, h⟩ := pur_some h
  refine sv (rv_conv Try.underlying23 Try.underlying3 rfl h22) (sv (mvv v16 rfl) (sv (rv_lenS el22 h17 rfl) ?_))
  obtain ⟨y23, h24, h⟩ := pur_some h
  refine sv (rv_add rfl rfl h24) ?_
  obtain ⟨y25, h26, h⟩ := bnd_some h
  obtain ⟨h27, h26⟩ := nz_some h26
  refine sv (rv_rem rfl rfl h27 h26) (sv (asv (.int .i64 y25) rfl) (W.e (k20 _ _ ?_)))
  refine cw_seq fun K28 k29 => ?_
  refine cw_region (sv (mvv v16 rfl) ?_)
  obtain ⟨y30, h31, h⟩ := bnd_some h
  refine sc (dc_call (vs := [v16]) can12 rfl ?_)
  refine (post_Of_w C.sb h17 h31).mono ?_
  rintro _ w32 ⟨S33, v35, rfl, c34, h36⟩
  refine ⟨_, rfl, ?_⟩
  replace h17 := h17.cx c34
  replace C := C.trans c34
  refine sv (mvv (.tuple (List.toArray [v35, .int .i64 y30.2])) rfl) (sv (rv_extract rfl rfl) (sv (rv_extract rfl rfl) (sv (asv v35 rfl) (sv (asv (.int .i64 y30.2) rfl) (W.e (k29 _ _ ?_))))))
  refine cw_seq fun K37 k38 => ?_
  refine cw_draw' [(1, true), (2, true), (3, true), (5, true), (6, true), (7, true), (9, true), (10, true), (11, true), (0, false), (4, false), (8, false), (12, false), (13, false), (14, true), (15, true), (16, true), (17, true), (18, true)] fol (by kernel_rfl) fun w39 u40 => ?_
  replace h17 := h17.nw u40
  replace h36 := h36.nw u40
  replace C := C.new u40
  refine ⟨Sm S33 w39, Sm.refl _ _, ?_⟩
  have m41 := Sm.refl S33 w39
  refine msv rfl (mvv v16 rfl) (msv rfl (mvv (.int .i64 y25) rfl) ?_)
  obtain ⟨y42, h43, h⟩ := bnd_some h
  obtain ⟨v44, h45, h46⟩ := rv_fromA (P := Try.prog) el22 h17 h43
  refine msv rfl (h46 rfl rfl) (msv rfl (mvv v16 rfl) (msv rfl (mvv (.int .i64 y25) rfl) ?_))
  obtain ⟨y47, h48, h⟩ := bnd_some h
  obtain ⟨v49, h50, h51⟩ := rv_uptoA (P := Try.prog) el22 h17 h48
  refine msv rfl (h51 rfl rfl) (msv rfl (mvv v16 rfl) (msv rfl (mvv (.int .i64 y25) rfl) ?_))
  obtain ⟨y52, h53, h⟩ := bnd_some h
  obtain ⟨v54, h55, h56⟩ := rv_fromA (P := Try.prog) el22 h17 h53
  refine msv rfl (h56 rfl rfl) ?_
  refine msc rfl (dc_lit (vs := []) (xs := ([] : List Int)) (base := w.heap.size) el22 rfl rfl (.nil) (Nat.le_of_ble_eq_true rfl) C.up.size C.sb fun v57 w58 h59 h60 u61 => ?_)
  replace h45 := h45.nw u61
  replace h50 := h50.nw u61
  replace h36 := h36.nw u61
  replace h55 := h55.nw u61
  replace C := C.new u61
  have u61z := u61.size
  replace m41 := m41.nx u61 (by omega)
  refine ⟨m41, ?_⟩
  obtain ⟨y62, h63, h⟩ := bnd_some h
  have h69 := h59
  refine msc rfl (dc_append el22 (by decide) h69 (h45.src fun _ h => h) rfl rfl h63 C.up.size C.sb fun v64 w65 h66 u67 h68 => ?_)
  replace h50 := h50.wr u67 h69.not
  replace h36 := h36.wr u67 h69.not
  replace h55 := h55.wr u67 h69.not
  replace C := C.ow h69 u67
  have u67z := u67.size
  replace m41 := m41.wr u67 h69.not (by omega)
  refine ⟨m41, ?_⟩
  obtain ⟨y70, h71, h⟩ := bnd_some h
  have h77 := h66
  refine msc rfl (dc_append el22 (by decide) h77 (h50.src fun _ h => h) rfl rfl h71 C.up.size C.sb fun v72 w73 h74 u75 h76 => ?_)
  replace h36 := h36.wr u75 h77.not
  replace h55 := h55.wr u75 h77.not
  replace C := C.ow h77 u75
  have u75z := u75.size
  replace m41 := m41.wr u75 h77.not (by omega)
  refine ⟨m41, ?_⟩
  obtain ⟨y78, h79, h⟩ := bnd_some h
  have h85 := h74
  refine msc rfl (dc_append el22 (by decide) h85 (h55.src fun _ h => h) rfl rfl h79 C.up.size C.sb fun v80 w81 h82 u83 h84 => ?_)
  replace h36 := h36.wr u83 h85.not
  replace C := C.ow h85 u83
  have u83z := u83.size
  replace m41 := m41.wr u83 h85.not (by omega)
  refine ⟨m41, ?_⟩
  replace h36 := h36.or (T := Blk v80)
  replace C := C.sealO h82
  replace h82 := h82.sealed
  obtain ⟨y86, h87, h⟩ := bnd_some h
  refine msc rfl (dc_call (vs := [v80]) can12 rfl ?_)
  refine (post_Of_w C.sb h82 h87).mono ?_
  rintro _ w88 ⟨S89, v91, rfl, c90, h92⟩
  refine ⟨_, rfl, ?_⟩
  replace h36 := h36.cx c90
  have m41 := m41
  replace C := C.trans c90
  have c90' := c90.up.size
  replace m41 := m41.nx c90.up (by omega)
  refine ⟨m41, ?_⟩
  refine msv rfl (mvv (.tuple (List.toArray [v91, .int .i64 y86.2])) rfl) (msv rfl (rv_extract rfl rfl) (msv rfl (rv_extract rfl rfl) (msv rfl (asv v91 rfl) (msv rfl (asv (.int .i64 y86.2) rfl) (M.e (k38 _ _ ?_))))))
  obtain ⟨o93, h96, h⟩ := bnd_some h
  refine cw_seq' (fun ρ w1 => ∃ S1, Cx No S w S1 w1 ∧ Has ρ [(4, .bool o93)]) ?_ ?_
  · refine cw_region (sv (mvv (.bool y5) rfl) (sv (mvv (.bool y5) rfl) ?_))
    rcases bif_some h96 with ⟨b97, h96⟩ | ⟨b97, h96⟩
    · refine W.v (gy rfl rfl rfl b97) (mvv (.int .i64 y30.2) rfl) (W.v (gy rfl rfl rfl b97) (mvv (.int .i64 y86.2) rfl) (W.v (gy rfl rfl rfl b97) (rv_eql rfl rfl) (sv (ptk (.bool (y30.2 == y86.2)) rfl b97 rfl) (sv (mvv (.bool (y30.2 == y86.2)) rfl) ?_))))
      rcases bif_some h96 with ⟨b98, h96⟩ | ⟨b98, h96⟩
      · refine W.v (gy rfl rfl rfl b98) (mvv v35 rfl) (W.v (gy rfl rfl rfl b98) (mvv v91 rfl) ?_)
        obtain ⟨y99, h100, h96⟩ := bnd_some h96
        refine W.c (gy rfl rfl rfl b98) (dc_call (vs := [v35, v91]) can13 rfl ?_)
        refine (marigraphref04_Ints_w C.sb h36 h92 h100).mono ?_
        rintro _ w101 ⟨S102, rfl, c103⟩
        refine ⟨_, rfl, ?_⟩
        replace h36 := h36.cx c103
        replace C := C.trans c103
        refine sv (ptk (.bool y99) rfl b98 rfl) (sv (mvv (.bool y99) rfl) ?_)
        rcases bif_some h96 with ⟨b104, h96⟩ | ⟨b104, h96⟩
        · refine W.v (gy rfl rfl rfl b104) (mvv (.int .i64 y30.2) rfl) (W.v (gy rfl rfl rfl b104) (rv_neq rfl rfl) (W.v (gy rfl rfl rfl b104) (mvv (.bool (y30.2 != (0 : Int))) rfl) ?_))
          rcases bif_some h96 with ⟨b105, h96⟩ | ⟨b105, h96⟩
          · refine W.n (gn rfl rfl rfl b105) (W.n (gn rfl rfl rfl b105) (W.v (gy rfl rfl rfl b104) (ptk (.bool true) rfl b105 rfl) (sv (ptk (.bool true) rfl b104 rfl) (sv (asv (.bool true) rfl) (W.e ?_)))))
            obtain rfl := Option.some.inj h96
            exact ⟨_, C, ⟨rfl, trivial⟩⟩
          · refine W.v (gy rfl rfl rfl b105) (mvv v35 rfl) ?_
            obtain ⟨y106, h107, h96⟩ := bnd_some h96
            refine W.c (gy rfl rfl rfl b105) (dc_call (vs := [v35]) can14 rfl ?_)
            refine (post_Right_w C.sb h36 h107).mono ?_
            rintro _ w108 ⟨S109, rfl, c110⟩
            refine ⟨_, rfl, ?_⟩
            replace C := C.trans c110
            refine W.v (gy rfl rfl rfl b104) (pfk (.bool y106) rfl b105 rfl) (sv (ptk (.bool y106) rfl b104 rfl) (sv (asv (.bool y106) rfl) (W.e ?_)))
            obtain rfl := Option.some.inj h96
            exact ⟨_, C, ⟨rfl, trivial⟩⟩
        · refine W.n (gn rfl rfl rfl b104) (W.n (gn rfl rfl rfl b104) (W.n (gn rfl rfl rfl b104) (W.n (gu rfl rfl rfl) (W.n (gu rfl rfl rfl) (W.n (gn rfl rfl rfl b104) (sv (pfk (.bool false) rfl b104 rfl) (sv (asv (.bool false) rfl) (W.e ?_))))))))
          obtain rfl := Option.some.inj h96
          exact ⟨_, C, ⟨rfl, trivial⟩⟩
      · refine W.n (gn rfl rfl rfl b98) (W.n (gn rfl rfl rfl b98) (W.n (gn rfl rfl rfl b98) (sv (pfk (.bool false) rfl b98 rfl) (sv (mvv (.bool false) rfl) (W.n (gn rfl rfl rfl rfl) (W.n (gn rfl rfl rfl rfl) (W.n (gn rfl rfl rfl rfl) (W.n (gu rfl rfl rfl) (W.n (gu rfl rfl rfl) (W.n (gn rfl rfl rfl rfl) (sv (pfk (.bool false) rfl rfl rfl) ?_)))))))))))
        refine sv (asv (.bool false) rfl) (W.e ?_)
        obtain rfl := Option.some.inj h96
        exact ⟨_, C, ⟨rfl, trivial⟩⟩
    · refine W.n (gn rfl rfl rfl b97) (W.n (gn rfl rfl rfl b97) (W.n (gn rfl rfl rfl b97) (sv (pfk (.bool false) rfl b97 rfl) (sv (mvv (.bool false) rfl) (W.n (gn rfl rfl rfl rfl) (W.n (gn rfl rfl rfl rfl) (W.n (gn rfl rfl rfl rfl) (sv (pfk (.bool false) rfl rfl rfl) (sv (mvv (.bool false) rfl) (W.n (gn rfl rfl rfl rfl) (W.n (gn rfl rfl rfl rfl) ?_)))))))))))
      refine W.n (gn rfl rfl rfl rfl) (W.n (gu rfl rfl rfl) (W.n (gu rfl rfl rfl) (W.n (gn rfl rfl rfl rfl) (sv (pfk (.bool false) rfl rfl rfl) (sv (asv (.bool false) rfl) (W.e ?_))))))
      obtain rfl := Option.some.inj h96
      exact ⟨_, C, ⟨rfl, trivial⟩⟩
  · rintro ρ w112 ⟨S111, C, h113⟩
    refine h113.cw fun ρ => ?_
    clear h113
    refine cw_ret ?_
    obtain rfl := Option.some.inj h
    exact ⟨_, rfl, _, rfl, C⟩

noncomputable def marigraphref06_put.b2 (a0 : List Int) (a1 : Int) (x13 : Int) : Option ((Int) ⊕ (Int)) :=
  (((bif (decide ((0 : Int) < x13)) then (pur (IntKind.i64.wrap (x13 - (1 : Int))) fun y25 => ((at_ a0 y25).bind fun y27 => some (decide (a1 < y27)))) else some false).bind fun o20 => (bif o20 then some (.inl ()) else some (.inr (.inr x13)))).bind (Sum.elim (fun o16n => (pur (IntKind.i64.wrap (x13 - (1 : Int))) fun y37 => some (.inl y37))) (fun q => some q)))
noncomputable def marigraphref06_put (a0 : List Int) (a1 : Int) : Option (List Int) :=
  ((iter (fun s : Int => marigraphref06_put.b2 a0 a1 s) (a0.length : Int)).bind fun o5 => (((bif (decide ((0 : Int) < o5)) then (pur (IntKind.i64.wrap (o5 - (1 : Int))) fun y51 => ((at_ a0 y51).bind fun y53 => some (y53 == a1))) else some false).bind fun o46 => (bif o46 then some (.inr a0) else some (.inl ()))).bind (Sum.elim (fun o42n => ((from_ a0 o5).bind fun y71 => ((app_ 8 ([] : List Int) y71).bind fun y76 => ((upto_ a0 o5).bind fun y92 => ((app_ 8 ([] : List Int) y92).bind fun y97 => ((app_ 8 y97 ([a1] : List Int)).bind fun y113 => ((app_ 8 y113 y76).bind fun y124 => some y124))))))) (fun q => some q))))
set_option maxRecDepth 100000 in
set_option maxHeartbeats 4000000 in
theorem marigraphref06_put_w {S : Nat → Prop} {w : World} {a0 : List Int} {a1 : Int} {v0 : Value} {r : (List Int)} (hS : Sb S w) (h0 : Sl (kSl (kI .i64)) S w v0 a0) (h : marigraphref06_put a0 a1 = some r) :
    Calls Try.prog 35 (List.toArray [v0, .int .i64 a1]) w fun e w1 => ∃ S1 u0, e = .returned (u0) ∧ Cx No S w S1 w1 ∧ Sl (kSl (kI .i64)) S1 w1 u0 r := by
  refine enter Try.func35 rfl (by kernel_rfl) rfl ?_
  have C := Cx.refl (F := No) hS
  unfold marigraphref06_put at h
  refine cw_seq fun K1 k2 => ?_
  refine cw_region (sv (asv (.slice none 0 0) rfl) (W.e (k2 _ _ ?_)))
  refine cw_seq fun K3 k4 => ?_
  refine cw_region (sv (mvv v0 rfl) (sv (rv_lenS el22 h0 rfl) (sv (asv (.int .i64 (a0.length : Int)) rfl) (W.e (k4 _ _ ?_)))))
  obtain ⟨o5, h8, h⟩ := bnd_some h
  refine cw_seq' (fun ρ w1 => ∃ S1, Cx No S w S1 w1 ∧ Has ρ [(0, v0), (1, .int .i64 a1), (5, .int .i64 o5)] ∧ Sl (kSl (kI .i64)) S1 w1 v0 a0) ?_ ?_
  · refine cw_block ?_
    refine cw_iter h8 (fun s ρ w1 => ∃ S1, Cx No S w S1 w1 ∧ Has ρ [(0, v0), (1, .int .i64 a1), (5, .int .i64 s)] ∧ Sl (kSl (kI .i64)) S1 w1 v0 a0) ⟨_, C, ⟨rfl, rfl, rfl, trivial⟩, h0⟩ ?_
    rintro x13 q9 ρ w11 ⟨S10, C, h12, h0⟩ h15 h14
    refine h12.cw fun ρ => ?_
    clear h12
    replace h15 : marigraphref06_put.b2 a0 a1 x13 = some q9 := h15
    unfold marigraphref06_put.b2 at h15
    obtain ⟨o16, h19, h15⟩ := bnds_some h15
    refine cw_seq' (fun ρ w1 => ∃ o16n, o16 = (.inl o16n) ∧ ∃ S1, Cx No S w S1 w1 ∧ Has ρ [(0, v0), (1, .int .i64 a1), (5, .int .i64 x13)] ∧ Sl (kSl (kI .i64)) S1 w1 v0 a0) ?_ ?_
    · obtain ⟨o20, h23, h19⟩ := bnd_some h19
      refine cw_seq' (fun ρ w1 => ∃ S1, Cx No S w S1 w1 ∧ Has ρ [(0, v0), (1, .int .i64 a1), (5, .int .i64 x13), (20, .bool o20)] ∧ Sl (kSl (kI .i64)) S1 w1 v0 a0) ?_ ?_
      · refine cw_region (sv (mvv (.int .i64 x13) rfl) (sv (rv_gtr rfl rfl) (sv (mvv (.bool (decide ((0 : Int) < x13))) rfl) ?_)))
        rcases bif_some h23 with ⟨b24, h23⟩ | ⟨b24, h23⟩
        · refine W.v (gy rfl rfl rfl b24) (mvv v0 rfl) (W.v (gy rfl rfl rfl b24) (mvv (.int .i64 x13) rfl) ?_)
          obtain ⟨y25, h26, h23⟩ := pur_some h23
          refine W.v (gy rfl rfl rfl b24) (rv_sub rfl rfl h26) ?_
          obtain ⟨y27, h28, h23⟩ := bnd_some h23
          refine W.v (gy rfl rfl rfl b24) (rv_index el22 h0 rfl rfl h28) (W.r (gy rfl rfl rfl b24) (rw_loadC el22 h0 h28 rfl _ (Sm.refl _ _)) (W.v (gy rfl rfl rfl b24) (mvv (.int .i64 a1) rfl) (W.v (gy rfl rfl rfl b24) (rv_gtr rfl rfl) (sv (ptk (.bool (decide (a1 < y27))) rfl b24 rfl) (W.e ?_)))))
          obtain rfl := Option.some.inj h23
          exact ⟨_, C, ⟨rfl, rfl, rfl, rfl, trivial⟩, h0⟩
        · refine W.n (gn rfl rfl rfl b24) (W.n (gn rfl rfl rfl b24) (W.n (gn rfl rfl rfl b24) (W.n (gn rfl rfl rfl b24) (W.n (gn rfl rfl rfl b24) (W.n (gn rfl rfl rfl b24) (W.n (gn rfl rfl rfl b24) (sv (pfk (.bool false) rfl b24 rfl) (W.e ?_))))))))
          obtain rfl := Option.some.inj h23
          exact ⟨_, C, ⟨rfl, rfl, rfl, rfl, trivial⟩, h0⟩
      · rintro ρ w30 ⟨S29, C, h31, h0⟩
        refine h31.cw fun ρ => ?_
        clear h31
        rcases bif_some h19 with ⟨b32, h19⟩ | ⟨b32, h19⟩
        · refine cw_t rfl b32 (cw_skip ?_)
          obtain rfl := Option.some.inj h19
          exact ⟨_, rfl, ⟨_, C, ⟨rfl, rfl, rfl, trivial⟩, h0⟩⟩
        · refine cw_f rfl b32 (cw_exit ?_)
          obtain rfl := Option.some.inj h19
          replace h15 := h15.2 _ rfl
          obtain rfl := Option.some.inj h15
          have h33 := congrArg some h14
          obtain rfl := Option.some.inj h33
          exact ⟨_, C, ⟨rfl, rfl, rfl, trivial⟩, h0⟩
    · rintro ρ w35 ⟨o16n, rfl, ⟨S34, C, h36, h0⟩⟩
      replace h15 := h15.1 _ rfl
      refine h36.cw fun ρ => ?_
      clear h36
      refine cw_block (cw_region (sv (mvv (.int .i64 x13) rfl) ?_))
      obtain ⟨y37, h38, h15⟩ := pur_some h15
      refine sv (rv_sub rfl rfl h38) (sv (asv (.int .i64 y37) rfl) (W.e ?_))
      obtain rfl := Option.some.inj h15
      exact ⟨_, rfl, ⟨_, C, ⟨rfl, rfl, rfl, trivial⟩, h0⟩⟩
  · rintro ρ w40 ⟨S39, C, h41, h0⟩
    refine h41.cw fun ρ => ?_
    clear h41
    obtain ⟨o42, h45, h⟩ := bnds_some h
    refine cw_seq' (fun ρ w1 => ∃ o42n, o42 = (.inl o42n) ∧ ∃ S1, Cx No S w S1 w1 ∧ Has ρ [(0, v0), (1, .int .i64 a1), (5, .int .i64 o5)] ∧ Sl (kSl (kI .i64)) S1 w1 v0 a0) ?_ ?_
    · obtain ⟨o46, h49, h45⟩ := bnd_some h45
      refine cw_seq' (fun ρ w1 => ∃ S1, Cx No S w S1 w1 ∧ Has ρ [(0, v0), (1, .int .i64 a1), (5, .int .i64 o5), (33, .bool o46)] ∧ Sl (kSl (kI .i64)) S1 w1 v0 a0) ?_ ?_
      · refine cw_region (sv (mvv (.int .i64 o5) rfl) (sv (rv_gtr rfl rfl) (sv (mvv (.bool (decide ((0 : Int) < o5))) rfl) ?_)))
        rcases bif_some h49 with ⟨b50, h49⟩ | ⟨b50, h49⟩
        · refine W.v (gy rfl rfl rfl b50) (mvv v0 rfl) (W.v (gy rfl rfl rfl b50) (mvv (.int .i64 o5) rfl) ?_)
          obtain ⟨y51, h52, h49⟩ := pur_some h49
          refine W.v (gy rfl rfl rfl b50) (rv_sub rfl rfl h52) ?_
          obtain ⟨y53, h54, h49⟩ := bnd_some h49
          refine W.v (gy rfl rfl rfl b50) (rv_index el22 h0 rfl rfl h54) (W.r (gy rfl rfl rfl b50) (rw_loadC el22 h0 h54 rfl _ (Sm.refl _ _)) (W.v (gy rfl rfl rfl b50) (mvv (.int .i64 a1) rfl) (W.v (gy rfl rfl rfl b50) (rv_eql rfl rfl) (sv (ptk (.bool (y53 == a1)) rfl b50 rfl) (W.e ?_)))))
          obtain rfl := Option.some.inj h49
          exact ⟨_, C, ⟨rfl, rfl, rfl, rfl, trivial⟩, h0⟩
        · refine W.n (gn rfl rfl rfl b50) (W.n (gn rfl rfl rfl b50) (W.n (gn rfl rfl rfl b50) (W.n (gn rfl rfl rfl b50) (W.n (gn rfl rfl rfl b50) (W.n (gn rfl rfl rfl b50) (W.n (gn rfl rfl rfl b50) (sv (pfk (.bool false) rfl b50 rfl) (W.e ?_))))))))
          obtain rfl := Option.some.inj h49
          exact ⟨_, C, ⟨rfl, rfl, rfl, rfl, trivial⟩, h0⟩
      · rintro ρ w56 ⟨S55, C, h57, h0⟩
        refine h57.cw fun ρ => ?_
        clear h57
        rcases bif_some h45 with ⟨b58, h45⟩ | ⟨b58, h45⟩
        · refine cw_t rfl b58 ?_
          refine cw_seq fun K59 k60 => ?_
          refine cw_region (sv (mvv v0 rfl) (sv (asv v0 rfl) (W.e (k60 _ _ (cw_ret ?_)))))
          obtain rfl := Option.some.inj h45
          replace h := h.2 _ rfl
          obtain rfl := Option.some.inj h
          exact ⟨_, rfl, _, _, rfl, C, h0⟩
        · refine cw_f rfl b58 (cw_skip ?_)
          obtain rfl := Option.some.inj h45
          exact ⟨_, rfl, ⟨_, C, ⟨rfl, rfl, rfl, trivial⟩, h0⟩⟩
    · rintro ρ w62 ⟨o42n, rfl, ⟨S61, C, h63, h0⟩⟩
      replace h := h.1 _ rfl
      refine h63.cw fun ρ => ?_
      clear h63
      refine cw_seq fun K64 k65 => ?_
      refine cw_region ?_
      refine sc (dc_lit (vs := []) (xs := ([] : List Int)) (base := w.heap.size) el22 rfl rfl (.nil) (Nat.le_of_ble_eq_true rfl) C.up.size C.sb fun v66 w67 h68 h69 u70 => ?_)
      replace h0 := h0.nw u70
      replace C := C.new u70
      refine sv (mvv v0 rfl) (sv (mvv (.int .i64 o5) rfl) ?_)
      obtain ⟨y71, h72, h⟩ := bnd_some h
      obtain ⟨v73, h74, h75⟩ := rv_fromA (P := Try.prog) el22 h0 h72
      refine sv (h75 rfl rfl) ?_
      obtain ⟨y76, h77, h⟩ := bnd_some h
      have h83 := h68
      refine sc (dc_append el22 (by decide) h83 (h74.src fun _ h => h) rfl rfl h77 C.up.size C.sb fun v78 w79 h80 u81 h82 => ?_)
      replace h0 := h0.wr u81 h83.not
      replace C := C.ow h83 u81
      refine sv (asv v78 rfl) (W.e (k65 _ _ ?_))
      refine cw_seq fun K84 k85 => ?_
      refine cw_region ?_
      refine sc (dc_lit (vs := []) (xs := ([] : List Int)) (base := w.heap.size) el22 rfl rfl (.nil) (Nat.le_of_ble_eq_true rfl) C.up.size C.sb fun v86 w87 h88 h89 u90 => ?_)
      have p91 := Ap.new h89 h80
      replace h0 := h0.nw u90
      replace h80 := h80.nw u90
      replace C := C.new u90
      refine sv (mvv v0 rfl) (sv (mvv (.int .i64 o5) rfl) ?_)
      obtain ⟨y92, h93, h⟩ := bnd_some h
      obtain ⟨v94, h95, h96⟩ := rv_uptoA (P := Try.prog) el22 h0 h93
      refine sv (h96 rfl rfl) ?_
      obtain ⟨y97, h98, h⟩ := bnd_some h
      have h104 := h88
      refine sc (dc_append el22 (by decide) h104 (h95.src fun _ h => h) rfl rfl h98 C.up.size C.sb fun v99 w100 h101 u102 h103 => ?_)
      have p105 := Ap.grow (v := v86) p91 h103 h80
      replace h80 := h80.wr u102 h104.not p91.symm
      replace C := C.ow h104 u102
      refine sv (mvv (.int .i64 a1) rfl) ?_
      refine sc (dc_lit (vs := [.int .i64 a1]) (xs := ([a1] : List Int)) (base := w.heap.size) el22 rfl rfl (.cons (sl_sc.2 rfl) (.nil)) (Nat.le_of_ble_eq_true rfl) C.up.size C.sb fun v106 w107 h108 h109 u110 => ?_)
      have p111 := Ap.new h109 h80
      have p112 := Ap.new h109 h101
      replace h80 := h80.nw u110
      replace h101 := h101.nw u110
      replace C := C.new u110
      obtain ⟨y113, h114, h⟩ := bnd_some h
      have h120 := h101
      refine sc (dc_append el22 (by decide) h120 h108.src rfl rfl h114 C.up.size C.sb fun v115 w116 h117 u118 h119 => ?_)
      have p121 := Ap.grow (v := v99) p105 h119 h80
      replace h80 := h80.wr u118 h120.not p105.symm
      replace C := C.ow h120 u118
      refine sv (asv v115 rfl) (W.e (k85 _ _ ?_))
      refine cw_seq fun K122 k123 => ?_
      refine cw_region (sv (mvv v115 rfl) (sv (mvv v78 rfl) ?_))
      obtain ⟨y124, h125, h⟩ := bnd_some h
      have h131 := h117
      refine sc (dc_append el22 (by decide) h131 h80.src rfl rfl h125 C.up.size C.sb fun v126 w127 h128 u129 h130 => ?_)
      replace C := C.ow h131 u129
      refine sv (asv v126 rfl) (W.e (k123 _ _ (cw_ret ?_)))
      obtain rfl := Option.some.inj h
      replace C := C.sealO h128
      replace h128 := h128.sealed
      exact ⟨_, rfl, _, _, rfl, C, h128⟩

noncomputable def marigraphref06_Of.b2 (a0 : List Int) (x15 : Int) : Option ((Int) ⊕ ((Unit) ⊕ ((List Int) × Int))) :=
  (bif (decide (x15 < (a0.length : Int))) then ((at_ a0 x15).bind fun y27 => (bif (decide (y27 < (0 : Int))) then some (.inr (.inr (([] : List Int), (1 : Int)))) else (pur (IntKind.i64.wrap (x15 + (1 : Int))) fun y33 => some (.inl y33)))) else some (.inr (.inl ())))
noncomputable def marigraphref06_Of.b4 (a0 : List Int) (x51 : List Int) (x52 : Int) : Option (((List Int) × Int) ⊕ ((List Int))) :=
  (bif (decide (x52 < (a0.length : Int))) then ((at_ a0 x52).bind fun y62 => ((marigraphref06_put x51 y62).bind fun y64 => (pur (IntKind.i64.wrap (x52 + (1 : Int))) fun y71 => some (.inl (y64, y71))))) else some (.inr x51))
noncomputable def marigraphref06_Of (a0 : List Int) : Option ((List Int) × Int) :=
  ((iter (fun s : Int => marigraphref06_Of.b2 a0 s) (0 : Int)).bind (Sum.elim (fun o5n => ((iter (fun s : (List Int) × Int => marigraphref06_Of.b4 a0 s.1 s.2) (([] : List Int), (0 : Int))).bind fun o39 => (bif (decide ((4096 : Int) < (o39.length : Int))) then some (([] : List Int), (3 : Int)) else some (o39, (0 : Int))))) (fun q => some q)))
set_option maxRecDepth 100000 in
set_option maxHeartbeats 4000000 in
theorem marigraphref06_Of_w {S : Nat → Prop} {w : World} {a0 : List Int} {v0 : Value} {r : (List Int) × Int} (hS : Sb S w) (h0 : Sl (kSl (kI .i64)) S w v0 a0) (h : marigraphref06_Of a0 = some r) :
    Calls Try.prog 25 (List.toArray [v0]) w fun e w1 => ∃ S1 u0, e = .returned (.tuple (List.toArray [u0, .int .i64 r.2])) ∧ Cx No S w S1 w1 ∧ Sl (kSl (kI .i64)) S1 w1 u0 r.1 := by
  refine enter Try.func25 rfl (by kernel_rfl) rfl ?_
  have C := Cx.refl (F := No) hS
  unfold marigraphref06_Of at h
  refine cw_seq fun K1 k2 => ?_
  refine cw_region (sv (asv (.slice none 0 0) rfl) (sv (asv (.int .i64 0) rfl) (W.e (k2 _ _ ?_))))
  refine cw_seq fun K3 k4 => ?_
  refine cw_region (sv (asv (.slice none 0 0) rfl) (W.e (k4 _ _ ?_)))
  obtain ⟨o5, h8, h⟩ := bnds_some h
  refine cw_seq' (fun ρ w1 => ∃ o5n, o5 = (.inl o5n) ∧ ∃ S1, Cx No S w S1 w1 ∧ Has ρ [(0, v0), (4, .slice none 0 0)] ∧ Sl (kSl (kI .i64)) S1 w1 v0 a0) ?_ ?_
  · refine cw_seq fun K9 k10 => ?_
    refine cw_region (sv (asv (.int .i64 0) rfl) (W.e (k10 _ _ (cw_block ?_))))
    refine cw_iter h8 (fun s ρ w1 => ∃ S1, Cx No S w S1 w1 ∧ Has ρ [(0, v0), (4, .slice none 0 0), (5, .int .i64 s)] ∧ Sl (kSl (kI .i64)) S1 w1 v0 a0) ⟨_, C, ⟨rfl, rfl, rfl, trivial⟩, h0⟩ ?_
    rintro x15 q11 ρ w13 ⟨S12, C, h14, h0⟩ h17 h16
    refine h14.cw fun ρ => ?_
    clear h14
    replace h17 : marigraphref06_Of.b2 a0 x15 = some q11 := h17
    unfold marigraphref06_Of.b2 at h17
    refine cw_seq fun K18 k19 => ?_
    refine cw_seq fun K20 k21 => ?_
    refine cw_region (sv (mvv (.int .i64 x15) rfl) (sv (mvv v0 rfl) (sv (rv_lenS el22 h0 rfl) (sv (rv_lss rfl rfl) (W.e (k21 _ _ ?_))))))
    rcases bif_some h17 with ⟨b22, h17⟩ | ⟨b22, h17⟩
    · refine cw_t rfl b22 (cw_skip (k19 _ _ ?_))
      refine cw_seq fun K23 k24 => ?_
      refine cw_block ?_
      refine cw_seq fun K25 k26 => ?_
      refine cw_region (sv (mvv v0 rfl) (sv (mvv (.int .i64 x15) rfl) ?_))
      obtain ⟨y27, h28, h17⟩ := bnd_some h17
      refine sv (rv_index el22 h0 rfl rfl h28) (sr (rw_loadC el22 h0 h28 rfl _ (Sm.refl _ _)) (sv (rv_lss rfl rfl) (W.e (k26 _ _ ?_))))
      rcases bif_some h17 with ⟨b29, h17⟩ | ⟨b29, h17⟩
      · refine cw_t rfl b29 ?_
        refine cw_seq fun K30 k31 => ?_
        refine cw_region (sv (asv (.slice none 0 0) rfl) (sv (asv (.int .i64 1) rfl) (W.e (k31 _ _ (cw_ret ?_)))))
        obtain rfl := Option.some.inj h17
        have h32 := congrArg some h16
        obtain rfl := Option.some.inj h32
        replace h := h.2 _ rfl
        obtain rfl := Option.some.inj h
        exact ⟨_, rfl, _, _, rfl, C, (sl_nil _ _ _)⟩
      · refine cw_f rfl b29 (cw_skip (k24 _ _ (cw_region (sv (mvv (.int .i64 x15) rfl) ?_))))
        obtain ⟨y33, h34, h17⟩ := pur_some h17
        refine sv (rv_add rfl rfl h34) (sv (asv (.int .i64 y33) rfl) (W.e ?_))
        obtain rfl := Option.some.inj h17
        exact ⟨_, rfl, ⟨_, C, ⟨rfl, rfl, rfl, trivial⟩, h0⟩⟩
    · refine cw_f rfl b22 (cw_exit ?_)
      obtain rfl := Option.some.inj h17
      have h35 := congrArg some h16
      obtain rfl := Option.some.inj h35
      exact ⟨_, rfl, ⟨_, C, ⟨rfl, rfl, trivial⟩, h0⟩⟩
  · rintro ρ w37 ⟨o5n, rfl, ⟨S36, C, h38, h0⟩⟩
    replace h := h.1 _ rfl
    refine h38.cw fun ρ => ?_
    clear h38
    obtain ⟨o39, h42, h⟩ := bnd_some h
    refine cw_seq' (fun ρ w1 => ∃ S1 v76, Cx No S w S1 w1 ∧ Has ρ [(4, v76)] ∧ Sl (kSl (kI .i64)) S1 w1 v76 o39) ?_ ?_
    · refine cw_seq fun K43 k44 => ?_
      refine cw_region (sv (asv (.int .i64 0) rfl) (W.e (k44 _ _ (cw_block ?_))))
      refine cw_iter h42 (fun s ρ w1 => ∃ S1 v48, Cx No S w S1 w1 ∧ Has ρ [(0, v0), (4, v48), (6, .int .i64 s.2)] ∧ Sl (kSl (kI .i64)) S1 w1 v0 a0 ∧ Sl (kSl (kI .i64)) S1 w1 v48 s.1) ⟨_, _, C, ⟨rfl, rfl, rfl, trivial⟩, h0, (sl_nil _ _ _)⟩ ?_
      rintro ⟨x51, x52⟩ q45 ρ w47 ⟨S46, v48, C, h50, h0, h49⟩ h54 h53
      refine h50.cw fun ρ => ?_
      clear h50
      replace h54 : marigraphref06_Of.b4 a0 x51 x52 = some q45 := h54
      unfold marigraphref06_Of.b4 at h54
      refine cw_seq fun K55 k56 => ?_
      refine cw_seq fun K57 k58 => ?_
      refine cw_region (sv (mvv (.int .i64 x52) rfl) (sv (mvv v0 rfl) (sv (rv_lenS el22 h0 rfl) (sv (rv_lss rfl rfl) (W.e (k58 _ _ ?_))))))
      rcases bif_some h54 with ⟨b59, h54⟩ | ⟨b59, h54⟩
      · refine cw_t rfl b59 (cw_skip (k56 _ _ ?_))
        refine cw_seq fun K60 k61 => ?_
        refine cw_block (cw_region (sv (mvv v48 rfl) (sv (mvv v0 rfl) (sv (mvv (.int .i64 x52) rfl) ?_))))
        obtain ⟨y62, h63, h54⟩ := bnd_some h54
        refine sv (rv_index el22 h0 rfl rfl h63) (sr (rw_loadC el22 h0 h63 rfl _ (Sm.refl _ _)) ?_)
        obtain ⟨y64, h65, h54⟩ := bnd_some h54
        refine sc (dc_call (vs := [v48, .int .i64 y62]) can35 rfl ?_)
        refine (marigraphref06_put_w C.sb h49 h65).mono ?_
        rintro _ w66 ⟨S67, v69, rfl, c68, h70⟩
        refine ⟨_, rfl, ?_⟩
        replace h0 := h0.cx c68
        replace h49 := h49.cx c68
        replace C := C.trans c68
        refine sv (asv v69 rfl) (W.e (k61 _ _ (cw_region (sv (mvv (.int .i64 x52) rfl) ?_))))
        obtain ⟨y71, h72, h54⟩ := pur_some h54
        refine sv (rv_add rfl rfl h72) (sv (asv (.int .i64 y71) rfl) (W.e ?_))
        obtain rfl := Option.some.inj h54
        exact ⟨_, rfl, ⟨_, _, C, ⟨rfl, rfl, rfl, trivial⟩, h0, h70⟩⟩
      · refine cw_f rfl b59 (cw_exit ?_)
        obtain rfl := Option.some.inj h54
        have h73 := congrArg some h53
        obtain rfl := Option.some.inj h73
        exact ⟨_, _, C, ⟨rfl, trivial⟩, h49⟩
    · rintro ρ w75 ⟨S74, v76, C, h78, h77⟩
      refine h78.cw fun ρ => ?_
      clear h78
      refine cw_seq fun K79 k80 => ?_
      refine cw_seq fun K81 k82 => ?_
      refine cw_region (sv (mvv v76 rfl) (sv (rv_lenS el22 h77 rfl) (sv (rv_gtr rfl rfl) (W.e (k82 _ _ ?_)))))
      rcases bif_some h with ⟨b83, h⟩ | ⟨b83, h⟩
      · refine cw_t rfl b83 ?_
        refine cw_seq fun K84 k85 => ?_
        refine cw_region (sv (asv (.slice none 0 0) rfl) (sv (asv (.int .i64 3) rfl) (W.e (k85 _ _ (cw_ret ?_)))))
        obtain rfl := Option.some.inj h
        exact ⟨_, rfl, _, _, rfl, C, (sl_nil _ _ _)⟩
      · refine cw_f rfl b83 (cw_skip (k80 _ _ ?_))
        refine cw_seq fun K86 k87 => ?_
        refine cw_region (sv (mvv v76 rfl) (sv (asv v76 rfl) (sv (asv (.int .i64 0) rfl) (W.e (k87 _ _ (cw_ret ?_))))))
        obtain rfl := Option.some.inj h
        exact ⟨_, rfl, _, _, rfl, C, h77⟩

noncomputable def marigraphlaw06_some.b2 (a0 : List Int) (x17 : List Int) (x18 : Int) : Option (((List Int) × Int) ⊕ ((List Int))) :=
  (bif (decide (x18 < (a0.length : Int))) then (((at_ a0 x18).bind fun y32 => ((bif (decide (x18 < (300 : Int))) then some (decide ((0 : Int) ≤ y32)) else some false).bind fun o34 => (bif o34 then ((app_ 8 x17 ([y32] : List Int)).bind fun y49 => some y49) else some x17))).bind fun o26 => (pur (IntKind.i64.wrap (x18 + (1 : Int))) fun y62 => some (.inl (o26, y62)))) else some (.inr x17))
noncomputable def marigraphlaw06_some (a0 : List Int) : Option (List Int) :=
  ((iter (fun s : (List Int) × Int => marigraphlaw06_some.b2 a0 s.1 s.2) (([] : List Int), (0 : Int))).bind fun o5 => ((marigraphref06_Of o5).bind fun y72 => some y72.1))
set_option maxRecDepth 100000 in
set_option maxHeartbeats 4000000 in
theorem marigraphlaw06_some_w {S : Nat → Prop} {w : World} {a0 : List Int} {v0 : Value} {r : (List Int)} (hS : Sb S w) (h0 : Sl (kSl (kI .i64)) S w v0 a0) (h : marigraphlaw06_some a0 = some r) :
    Calls Try.prog 15 (List.toArray [v0]) w fun e w1 => ∃ S1 u0, e = .returned (u0) ∧ Cx No S w S1 w1 ∧ Sl (kSl (kI .i64)) S1 w1 u0 r := by
  refine enter Try.func15 rfl (by kernel_rfl) rfl ?_
  have C := Cx.refl (F := No) hS
  unfold marigraphlaw06_some at h
  refine cw_seq fun K1 k2 => ?_
  refine cw_region (sv (asv (.slice none 0 0) rfl) (W.e (k2 _ _ ?_)))
  refine cw_seq fun K3 k4 => ?_
  refine cw_region (sv (asv (.slice none 0 0) rfl) (W.e (k4 _ _ ?_)))
  obtain ⟨o5, h8, h⟩ := bnd_some h
  refine cw_seq' (fun ρ w1 => ∃ S1 v67, Cx No S w S1 w1 ∧ Has ρ [(3, v67)] ∧ Ow (kI .i64) 3 S1 w.heap.size w1 v67 o5) ?_ ?_
  · refine cw_seq fun K9 k10 => ?_
    refine cw_region (sv (mvv v0 rfl) (sv (rv_lenS el22 h0 rfl) (sv (mvv (.int .i64 0) rfl) (W.e (k10 _ _ (cw_block ?_))))))
    refine cw_iter h8 (fun s ρ w1 => ∃ S1 v14, Cx No S w S1 w1 ∧ Has ρ [(3, v14), (8, v0), (9, .int .i64 (a0.length : Int)), (10, .int .i64 s.2)] ∧ Ow (kI .i64) 3 S1 w.heap.size w1 v14 s.1 ∧ Sl (kSl (kI .i64)) S1 w1 v0 a0) ⟨_, _, C, ⟨rfl, rfl, rfl, rfl, trivial⟩, Ow.nil _ _ _ _ _, h0⟩ ?_
    rintro ⟨x17, x18⟩ q11 ρ w13 ⟨S12, v14, C, h16, h15, h0⟩ h20 h19
    refine h16.cw fun ρ => ?_
    clear h16
    replace h20 : marigraphlaw06_some.b2 a0 x17 x18 = some q11 := h20
    unfold marigraphlaw06_some.b2 at h20
    refine cw_seq fun K21 k22 => ?_
    refine cw_region (sv (rv_lss rfl rfl) (W.e (k22 _ _ ?_)))
    refine cw_seq fun K23 k24 => ?_
    rcases bif_some h20 with ⟨b25, h20⟩ | ⟨b25, h20⟩
    · refine cw_t rfl b25 (cw_skip (k24 _ _ ?_))
      obtain ⟨o26, h29, h20⟩ := bnd_some h20
      refine cw_seq' (fun ρ w1 => ∃ S1 v59, Cx No S w S1 w1 ∧ Has ρ [(3, v59), (8, v0), (9, .int .i64 (a0.length : Int)), (10, .int .i64 x18)] ∧ Ow (kI .i64) 3 S1 w.heap.size w1 v59 o26 ∧ Sl (kSl (kI .i64)) S1 w1 v0 a0) ?_ ?_
      · refine cw_block ?_
        refine cw_seq fun K30 k31 => ?_
        refine cw_region (sv (mvv (.int .i64 x18) rfl) ?_)
        obtain ⟨y32, h33, h29⟩ := bnd_some h29
        refine sv (rv_index el22 h0 rfl rfl h33) (sr (rw_loadC el22 h0 h33 rfl _ (Sm.refl _ _)) (sv (asv (.int .i64 x18) rfl) (sv (asv (.int .i64 y32) rfl) (W.e (k31 _ _ ?_)))))
        obtain ⟨o34, h37, h29⟩ := bnd_some h29
        refine cw_seq' (fun ρ w1 => ∃ S1, Cx No S w S1 w1 ∧ Has ρ [(3, v14), (5, .int .i64 y32), (8, v0), (9, .int .i64 (a0.length : Int)), (10, .int .i64 x18), (20, .bool o34)] ∧ Ow (kI .i64) 3 S1 w.heap.size w1 v14 x17 ∧ Sl (kSl (kI .i64)) S1 w1 v0 a0) ?_ ?_
        · refine cw_region (sv (mvv (.int .i64 x18) rfl) (sv (rv_lss rfl rfl) (sv (mvv (.bool (decide (x18 < (300 : Int)))) rfl) ?_)))
          rcases bif_some h37 with ⟨b38, h37⟩ | ⟨b38, h37⟩
          · refine W.v (gy rfl rfl rfl b38) (mvv (.int .i64 y32) rfl) (W.v (gy rfl rfl rfl b38) (rv_geq rfl rfl) (sv (ptk (.bool (decide ((0 : Int) ≤ y32))) rfl b38 rfl) (W.e ?_)))
            obtain rfl := Option.some.inj h37
            exact ⟨_, C, ⟨rfl, rfl, rfl, rfl, rfl, rfl, trivial⟩, h15, h0⟩
          · refine W.n (gn rfl rfl rfl b38) (W.n (gn rfl rfl rfl b38) (sv (pfk (.bool false) rfl b38 rfl) (W.e ?_)))
            obtain rfl := Option.some.inj h37
            exact ⟨_, C, ⟨rfl, rfl, rfl, rfl, rfl, rfl, trivial⟩, h15, h0⟩
        · rintro ρ w40 ⟨S39, C, h41, h15, h0⟩
          refine h41.cw fun ρ => ?_
          clear h41
          rcases bif_some h29 with ⟨b42, h29⟩ | ⟨b42, h29⟩
          · refine cw_t rfl b42 (cw_region (sv (mvv v14 rfl) (sv (mvv (.int .i64 y32) rfl) ?_)))
            refine sc (dc_lit (vs := [.int .i64 y32]) (xs := ([y32] : List Int)) (base := w.heap.size) el22 rfl rfl (.cons (sl_sc.2 rfl) (.nil)) (Nat.le_of_ble_eq_true rfl) C.up.size C.sb fun v43 w44 h45 h46 u47 => ?_)
            have p48 := Ap.new h46 h15
            replace h15 := h15.nw u47
            replace h0 := h0.nw u47
            replace C := C.new u47
            obtain ⟨y49, h50, h29⟩ := bnd_some h29
            have h56 := h15
            refine sc (dc_append el22 (by decide) h56 h45.src rfl rfl h50 C.up.size C.sb fun v51 w52 h53 u54 h55 => ?_)
            replace h0 := h0.wr u54 h56.not
            replace C := C.ow h56 u54
            refine sv (asv v51 rfl) (W.e ?_)
            obtain rfl := Option.some.inj h29
            exact ⟨_, _, C, ⟨rfl, rfl, rfl, rfl, trivial⟩, h53, h0⟩
          · refine cw_f rfl b42 (cw_skip ?_)
            obtain rfl := Option.some.inj h29
            exact ⟨_, _, C, ⟨rfl, rfl, rfl, rfl, trivial⟩, h15, h0⟩
      · rintro ρ w58 ⟨S57, v59, C, h61, h60, h0⟩
        refine h61.cw fun ρ => ?_
        clear h61
        refine cw_region ?_
        obtain ⟨y62, h63, h20⟩ := pur_some h20
        refine sv (rv_add rfl rfl h63) (sv (mvv (.int .i64 y62) rfl) (W.e ?_))
        obtain rfl := Option.some.inj h20
        exact ⟨_, rfl, ⟨_, _, C, ⟨rfl, rfl, rfl, rfl, trivial⟩, h60, h0⟩⟩
    · refine cw_f rfl b25 (cw_exit ?_)
      obtain rfl := Option.some.inj h20
      have h64 := congrArg some h19
      obtain rfl := Option.some.inj h64
      exact ⟨_, _, C, ⟨rfl, trivial⟩, h15⟩
  · rintro ρ w66 ⟨S65, v67, C, h69, h68⟩
    refine h69.cw fun ρ => ?_
    clear h69
    refine cw_seq fun K70 k71 => ?_
    refine cw_region (sv (mvv v67 rfl) ?_)
    replace C := C.sealO h68
    replace h68 := h68.sealed
    obtain ⟨y72, h73, h⟩ := bnd_some h
    refine sc (dc_call (vs := [v67]) can25 rfl ?_)
    refine (marigraphref06_Of_w C.sb h68 h73).mono ?_
    rintro _ w74 ⟨S75, v77, rfl, c76, h78⟩
    refine ⟨_, rfl, ?_⟩
    replace C := C.trans c76
    refine sv (mvv (.tuple (List.toArray [v77, .int .i64 y72.2])) rfl) (sv (rv_extract rfl rfl) (sv (rv_extract rfl rfl) (sv (asv v77 rfl) (sv (asv (.int .i64 y72.2) rfl) (W.e (k71 _ _ ?_))))))
    refine cw_seq fun K79 k80 => ?_
    refine cw_region (sv (mvv v77 rfl) (sv (asv v77 rfl) (W.e (k80 _ _ (cw_ret ?_)))))
    obtain rfl := Option.some.inj h
    exact ⟨_, rfl, _, _, rfl, C, h78⟩

noncomputable def post_Or (a0 : List Int) (a1 : List Int) : Option ((List Int) × Int) :=
  ((post_merge a0 a1 true true true).bind fun y5 => some (y5.1, y5.2))
set_option maxRecDepth 100000 in
set_option maxHeartbeats 4000000 in
theorem post_Or_w {S : Nat → Prop} {w : World} {a0 : List Int} {a1 : List Int} {v0 v1 : Value} {r : (List Int) × Int} (hS : Sb S w) (h0 : Sl (kSl (kI .i64)) S w v0 a0) (h1 : Sl (kSl (kI .i64)) S w v1 a1) (h : post_Or a0 a1 = some r) :
    Calls Try.prog 17 (List.toArray [v0, v1]) w fun e w1 => ∃ S1 u0, e = .returned (.tuple (List.toArray [u0, .int .i64 r.2])) ∧ Cx No S w S1 w1 ∧ Sl (kSl (kI .i64)) S1 w1 u0 r.1 := by
  refine enter Try.func17 rfl (by kernel_rfl) rfl ?_
  have C := Cx.refl (F := No) hS
  unfold post_Or at h
  refine cw_seq fun K1 k2 => ?_
  refine cw_region (sv (asv (.slice none 0 0) rfl) (sv (asv (.int .i64 0) rfl) (W.e (k2 _ _ ?_))))
  refine cw_seq fun K3 k4 => ?_
  refine cw_region (sv (mvv v0 rfl) (sv (mvv v1 rfl) ?_))
  obtain ⟨y5, h6, h⟩ := bnd_some h
  refine sc (dc_call (vs := [v0, v1, .bool true, .bool true, .bool true]) can33 rfl ?_)
  refine (post_merge_w C.sb h0 h1 h6).mono ?_
  rintro _ w7 ⟨S8, v10, rfl, c9, h11⟩
  refine ⟨_, rfl, ?_⟩
  replace C := C.trans c9
  refine sv (rv_extract rfl rfl) (sv (rv_extract rfl rfl) (sv (asv v10 rfl) (sv (asv (.int .i64 y5.2) rfl) (W.e (k4 _ _ (cw_ret ?_))))))
  obtain rfl := Option.some.inj h
  exact ⟨_, rfl, _, _, rfl, C, h11⟩

noncomputable def post_Minus (a0 : List Int) (a1 : List Int) : Option ((List Int) × Int) :=
  ((post_merge a0 a1 true false false).bind fun y5 => some (y5.1, y5.2))
set_option maxRecDepth 100000 in
set_option maxHeartbeats 4000000 in
theorem post_Minus_w {S : Nat → Prop} {w : World} {a0 : List Int} {a1 : List Int} {v0 v1 : Value} {r : (List Int) × Int} (hS : Sb S w) (h0 : Sl (kSl (kI .i64)) S w v0 a0) (h1 : Sl (kSl (kI .i64)) S w v1 a1) (h : post_Minus a0 a1 = some r) :
    Calls Try.prog 18 (List.toArray [v0, v1]) w fun e w1 => ∃ S1 u0, e = .returned (.tuple (List.toArray [u0, .int .i64 r.2])) ∧ Cx No S w S1 w1 ∧ Sl (kSl (kI .i64)) S1 w1 u0 r.1 := by
  refine enter Try.func18 rfl (by kernel_rfl) rfl ?_
  have C := Cx.refl (F := No) hS
  unfold post_Minus at h
  refine cw_seq fun K1 k2 => ?_
  refine cw_region (sv (asv (.slice none 0 0) rfl) (sv (asv (.int .i64 0) rfl) (W.e (k2 _ _ ?_))))
  refine cw_seq fun K3 k4 => ?_
  refine cw_region (sv (mvv v0 rfl) (sv (mvv v1 rfl) ?_))
  obtain ⟨y5, h6, h⟩ := bnd_some h
  refine sc (dc_call (vs := [v0, v1, .bool true, .bool false, .bool false]) can33 rfl ?_)
  refine (post_merge_w C.sb h0 h1 h6).mono ?_
  rintro _ w7 ⟨S8, v10, rfl, c9, h11⟩
  refine ⟨_, rfl, ?_⟩
  replace C := C.trans c9
  refine sv (rv_extract rfl rfl) (sv (rv_extract rfl rfl) (sv (asv v10 rfl) (sv (asv (.int .i64 y5.2) rfl) (W.e (k4 _ _ (cw_ret ?_))))))
  obtain rfl := Option.some.inj h
  exact ⟨_, rfl, _, _, rfl, C, h11⟩

noncomputable def marigraphlaw06_PostSelf (a0 : List Int) : Option Bool :=
  ((marigraphlaw06_shown).bind fun y5 => ((marigraphlaw06_some a0).bind fun y12 => ((post_And y12 y12).bind fun y21 => ((post_Or y12 y12).bind fun y30 => ((post_Minus y12 y12).bind fun y39 => ((post_Or y12 ([] : List Int)).bind fun y48 => ((bif y5 then (bif (y21.2 == (0 : Int)) then (bif (y30.2 == (0 : Int)) then (bif (y39.2 == (0 : Int)) then (bif (y48.2 == (0 : Int)) then ((marigraphref04_Ints y21.1 y12).bind fun y64 => (bif y64 then ((marigraphref04_Ints y30.1 y12).bind fun y70 => (bif y70 then (bif ((y39.1.length : Int) == (0 : Int)) then ((marigraphref04_Ints y48.1 y12).bind fun y77 => some y77) else some false) else some false)) else some false)) else some false) else some false) else some false) else some false) else some false).bind fun o55 => some o55)))))))
set_option maxRecDepth 100000 in
set_option maxHeartbeats 4000000 in
theorem marigraphlaw06_PostSelf_w {S : Nat → Prop} {w : World} {a0 : List Int} {v0 : Value} {r : Bool} (hS : Sb S w) (h0 : Sl (kSl (kI .i64)) S w v0 a0) (h : marigraphlaw06_PostSelf a0 = some r) :
    Calls Try.prog 4 (List.toArray [v0]) w fun e w1 => ∃ S1, e = .returned (.bool r) ∧ Cx No S w S1 w1 := by
  refine enter Try.func4 rfl (by kernel_rfl) rfl ?_
  have C := Cx.refl (F := No) hS
  unfold marigraphlaw06_PostSelf at h
  refine cw_seq fun K1 k2 => ?_
  refine cw_region (sv (asv (.bool false) rfl) (W.e (k2 _ _ ?_)))
  refine cw_seq fun K3 k4 => ?_
  refine cw_region ?_
  obtain ⟨y5, h6, h⟩ := bnd_some h
  refine sc (dc_call (vs := []) can11 rfl ?_)
  refine (marigraphlaw06_shown_w C.sb  h6).mono ?_
  rintro _ w7 ⟨S8, rfl, c9⟩
  refine ⟨_, rfl, ?_⟩
  replace h0 := h0.cx c9
  replace C := C.trans c9
  refine sv (asv (.bool y5) rfl) (W.e (k4 _ _ ?_))
  refine cw_seq fun K10 k11 => ?_
  refine cw_region (sv (mvv v0 rfl) ?_)
  obtain ⟨y12, h13, h⟩ := bnd_some h
  refine sc (dc_call (vs := [v0]) can15 rfl ?_)
  refine (marigraphlaw06_some_w C.sb h0 h13).mono ?_
  rintro _ w14 ⟨S15, v17, rfl, c16, h18⟩
  refine ⟨_, rfl, ?_⟩
  replace C := C.trans c16
  refine sv (asv v17 rfl) (W.e (k11 _ _ ?_))
  refine cw_seq fun K19 k20 => ?_
  refine cw_region (sv (mvv v17 rfl) (sv (mvv v17 rfl) ?_))
  obtain ⟨y21, h22, h⟩ := bnd_some h
  refine sc (dc_call (vs := [v17, v17]) can16 rfl ?_)
  refine (post_And_w C.sb h18 h18 h22).mono ?_
  rintro _ w23 ⟨S24, v26, rfl, c25, h27⟩
  refine ⟨_, rfl, ?_⟩
  replace h18 := h18.cx c25
  replace C := C.trans c25
  refine sv (mvv (.tuple (List.toArray [v26, .int .i64 y21.2])) rfl) (sv (rv_extract rfl rfl) (sv (rv_extract rfl rfl) (sv (asv v26 rfl) (sv (asv (.int .i64 y21.2) rfl) (W.e (k20 _ _ ?_))))))
  refine cw_seq fun K28 k29 => ?_
  refine cw_region (sv (mvv v17 rfl) (sv (mvv v17 rfl) ?_))
  obtain ⟨y30, h31, h⟩ := bnd_some h
  refine sc (dc_call (vs := [v17, v17]) can17 rfl ?_)
  refine (post_Or_w C.sb h18 h18 h31).mono ?_
  rintro _ w32 ⟨S33, v35, rfl, c34, h36⟩
  refine ⟨_, rfl, ?_⟩
  replace h18 := h18.cx c34
  replace h27 := h27.cx c34
  replace C := C.trans c34
  refine sv (mvv (.tuple (List.toArray [v35, .int .i64 y30.2])) rfl) (sv (rv_extract rfl rfl) (sv (rv_extract rfl rfl) (sv (asv v35 rfl) (sv (asv (.int .i64 y30.2) rfl) (W.e (k29 _ _ ?_))))))
  refine cw_seq fun K37 k38 => ?_
  refine cw_region (sv (mvv v17 rfl) (sv (mvv v17 rfl) ?_))
  obtain ⟨y39, h40, h⟩ := bnd_some h
  refine sc (dc_call (vs := [v17, v17]) can18 rfl ?_)
  refine (post_Minus_w C.sb h18 h18 h40).mono ?_
  rintro _ w41 ⟨S42, v44, rfl, c43, h45⟩
  refine ⟨_, rfl, ?_⟩
  replace h18 := h18.cx c43
  replace h27 := h27.cx c43
  replace h36 := h36.cx c43
  replace C := C.trans c43
  refine sv (mvv (.tuple (List.toArray [v44, .int .i64 y39.2])) rfl) (sv (rv_extract rfl rfl) (sv (rv_extract rfl rfl) (sv (asv v44 rfl) (sv (asv (.int .i64 y39.2) rfl) (W.e (k38 _ _ ?_))))))
  refine cw_seq fun K46 k47 => ?_
  refine cw_region (sv (mvv v17 rfl) ?_)
  obtain ⟨y48, h49, h⟩ := bnd_some h
  refine sc (dc_call (vs := [v17, .slice none 0 0]) can17 rfl ?_)
  refine (post_Or_w C.sb h18 (sl_nil _ _ _) h49).mono ?_
  rintro _ w50 ⟨S51, v53, rfl, c52, h54⟩
  refine ⟨_, rfl, ?_⟩
  replace h18 := h18.cx c52
  replace h27 := h27.cx c52
  replace h36 := h36.cx c52
  replace h45 := h45.cx c52
  replace C := C.trans c52
  refine sv (mvv (.tuple (List.toArray [v53, .int .i64 y48.2])) rfl) (sv (rv_extract rfl rfl) (sv (rv_extract rfl rfl) (sv (asv v53 rfl) (sv (asv (.int .i64 y48.2) rfl) (W.e (k47 _ _ ?_))))))
  obtain ⟨o55, h58, h⟩ := bnd_some h
  refine cw_seq' (fun ρ w1 => ∃ S1, Cx No S w S1 w1 ∧ Has ρ [(2, .bool o55)]) ?_ ?_
  · refine cw_region (sv (mvv (.bool y5) rfl) (sv (mvv (.bool y5) rfl) ?_))
    rcases bif_some h58 with ⟨b59, h58⟩ | ⟨b59, h58⟩
    · refine W.v (gy rfl rfl rfl b59) (mvv (.int .i64 y21.2) rfl) (W.v (gy rfl rfl rfl b59) (rv_eql rfl rfl) (sv (ptk (.bool (y21.2 == (0 : Int))) rfl b59 rfl) (sv (mvv (.bool (y21.2 == (0 : Int))) rfl) ?_)))
      rcases bif_some h58 with ⟨b60, h58⟩ | ⟨b60, h58⟩
      · refine W.v (gy rfl rfl rfl b60) (mvv (.int .i64 y30.2) rfl) (W.v (gy rfl rfl rfl b60) (rv_eql rfl rfl) (sv (ptk (.bool (y30.2 == (0 : Int))) rfl b60 rfl) (sv (mvv (.bool (y30.2 == (0 : Int))) rfl) ?_)))
        rcases bif_some h58 with ⟨b61, h58⟩ | ⟨b61, h58⟩
        · refine W.v (gy rfl rfl rfl b61) (mvv (.int .i64 y39.2) rfl) (W.v (gy rfl rfl rfl b61) (rv_eql rfl rfl) (sv (ptk (.bool (y39.2 == (0 : Int))) rfl b61 rfl) (sv (mvv (.bool (y39.2 == (0 : Int))) rfl) ?_)))
          rcases bif_some h58 with ⟨b62, h58⟩ | ⟨b62, h58⟩
          · refine W.v (gy rfl rfl rfl b62) (mvv (.int .i64 y48.2) rfl) (W.v (gy rfl rfl rfl b62) (rv_eql rfl rfl) (sv (ptk (.bool (y48.2 == (0 : Int))) rfl b62 rfl) (sv (mvv (.bool (y48.2 == (0 : Int))) rfl) ?_)))
            rcases bif_some h58 with ⟨b63, h58⟩ | ⟨b63, h58⟩
            · refine W.v (gy rfl rfl rfl b63) (mvv v26 rfl) (W.v (gy rfl rfl rfl b63) (mvv v17 rfl) ?_)
              obtain ⟨y64, h65, h58⟩ := bnd_some h58
              refine W.c (gy rfl rfl rfl b63) (dc_call (vs := [v26, v17]) can13 rfl ?_)
              refine (marigraphref04_Ints_w C.sb h27 h18 h65).mono ?_
              rintro _ w66 ⟨S67, rfl, c68⟩
              refine ⟨_, rfl, ?_⟩
              replace h18 := h18.cx c68
              replace h36 := h36.cx c68
              replace h45 := h45.cx c68
              replace h54 := h54.cx c68
              replace C := C.trans c68
              refine sv (ptk (.bool y64) rfl b63 rfl) (sv (mvv (.bool y64) rfl) ?_)
              rcases bif_some h58 with ⟨b69, h58⟩ | ⟨b69, h58⟩
              · refine W.v (gy rfl rfl rfl b69) (mvv v35 rfl) (W.v (gy rfl rfl rfl b69) (mvv v17 rfl) ?_)
                obtain ⟨y70, h71, h58⟩ := bnd_some h58
                refine W.c (gy rfl rfl rfl b69) (dc_call (vs := [v35, v17]) can13 rfl ?_)
                refine (marigraphref04_Ints_w C.sb h36 h18 h71).mono ?_
                rintro _ w72 ⟨S73, rfl, c74⟩
                refine ⟨_, rfl, ?_⟩
                replace h18 := h18.cx c74
                replace h45 := h45.cx c74
                replace h54 := h54.cx c74
                replace C := C.trans c74
                refine sv (ptk (.bool y70) rfl b69 rfl) (sv (mvv (.bool y70) rfl) ?_)
                rcases bif_some h58 with ⟨b75, h58⟩ | ⟨b75, h58⟩
                · refine W.v (gy rfl rfl rfl b75) (mvv v44 rfl) (W.v (gy rfl rfl rfl b75) (rv_lenS el22 h45 rfl) (W.v (gy rfl rfl rfl b75) (rv_eql rfl rfl) (sv (ptk (.bool ((y39.1.length : Int) == (0 : Int))) rfl b75 rfl) (sv (mvv (.bool ((y39.1.length : Int) == (0 : Int))) rfl) ?_))))
                  rcases bif_some h58 with ⟨b76, h58⟩ | ⟨b76, h58⟩
                  · refine W.v (gy rfl rfl rfl b76) (mvv v53 rfl) (W.v (gy rfl rfl rfl b76) (mvv v17 rfl) ?_)
                    obtain ⟨y77, h78, h58⟩ := bnd_some h58
                    refine W.c (gy rfl rfl rfl b76) (dc_call (vs := [v53, v17]) can13 rfl ?_)
                    refine (marigraphref04_Ints_w C.sb h54 h18 h78).mono ?_
                    rintro _ w79 ⟨S80, rfl, c81⟩
                    refine ⟨_, rfl, ?_⟩
                    replace C := C.trans c81
                    refine sv (ptk (.bool y77) rfl b76 rfl) (sv (asv (.bool y77) rfl) (W.e ?_))
                    obtain rfl := Option.some.inj h58
                    exact ⟨_, C, ⟨rfl, trivial⟩⟩
                  · refine W.n (gn rfl rfl rfl b76) (W.n (gn rfl rfl rfl b76) (W.n (gn rfl rfl rfl b76) (sv (pfk (.bool false) rfl b76 rfl) (sv (asv (.bool false) rfl) (W.e ?_)))))
                    obtain rfl := Option.some.inj h58
                    exact ⟨_, C, ⟨rfl, trivial⟩⟩
                · refine W.n (gn rfl rfl rfl b75) (W.n (gn rfl rfl rfl b75) (W.n (gn rfl rfl rfl b75) (sv (pfk (.bool false) rfl b75 rfl) (sv (mvv (.bool false) rfl) (W.n (gn rfl rfl rfl rfl) (W.n (gn rfl rfl rfl rfl) (W.n (gn rfl rfl rfl rfl) (sv (pfk (.bool false) rfl rfl rfl) (sv (asv (.bool false) rfl) (W.e ?_))))))))))
                  obtain rfl := Option.some.inj h58
                  exact ⟨_, C, ⟨rfl, trivial⟩⟩
              · refine W.n (gn rfl rfl rfl b69) (W.n (gn rfl rfl rfl b69) (W.n (gn rfl rfl rfl b69) (sv (pfk (.bool false) rfl b69 rfl) (sv (mvv (.bool false) rfl) (W.n (gn rfl rfl rfl rfl) (W.n (gn rfl rfl rfl rfl) (W.n (gn rfl rfl rfl rfl) (sv (pfk (.bool false) rfl rfl rfl) (sv (mvv (.bool false) rfl) (W.n (gn rfl rfl rfl rfl) (W.n (gn rfl rfl rfl rfl) ?_)))))))))))
                refine W.n (gn rfl rfl rfl rfl) (sv (pfk (.bool false) rfl rfl rfl) (sv (asv (.bool false) rfl) (W.e ?_)))
                obtain rfl := Option.some.inj h58
                exact ⟨_, C, ⟨rfl, trivial⟩⟩
            · refine W.n (gn rfl rfl rfl b63) (W.n (gn rfl rfl rfl b63) (W.n (gn rfl rfl rfl b63) (sv (pfk (.bool false) rfl b63 rfl) (sv (mvv (.bool false) rfl) (W.n (gn rfl rfl rfl rfl) (W.n (gn rfl rfl rfl rfl) (W.n (gn rfl rfl rfl rfl) (sv (pfk (.bool false) rfl rfl rfl) (sv (mvv (.bool false) rfl) (W.n (gn rfl rfl rfl rfl) (W.n (gn rfl rfl rfl rfl) ?_)))))))))))
              refine W.n (gn rfl rfl rfl rfl) (sv (pfk (.bool false) rfl rfl rfl) (sv (mvv (.bool false) rfl) (W.n (gn rfl rfl rfl rfl) (W.n (gn rfl rfl rfl rfl) (W.n (gn rfl rfl rfl rfl) (sv (pfk (.bool false) rfl rfl rfl) (sv (asv (.bool false) rfl) (W.e ?_))))))))
              obtain rfl := Option.some.inj h58
              exact ⟨_, C, ⟨rfl, trivial⟩⟩
          · refine W.n (gn rfl rfl rfl b62) (W.n (gn rfl rfl rfl b62) (sv (pfk (.bool false) rfl b62 rfl) (sv (mvv (.bool false) rfl) (W.n (gn rfl rfl rfl rfl) (W.n (gn rfl rfl rfl rfl) (W.n (gn rfl rfl rfl rfl) (sv (pfk (.bool false) rfl rfl rfl) (sv (mvv (.bool false) rfl) (W.n (gn rfl rfl rfl rfl) (W.n (gn rfl rfl rfl rfl) (W.n (gn rfl rfl rfl rfl) ?_)))))))))))
            refine sv (pfk (.bool false) rfl rfl rfl) (sv (mvv (.bool false) rfl) (W.n (gn rfl rfl rfl rfl) (W.n (gn rfl rfl rfl rfl) (W.n (gn rfl rfl rfl rfl) (sv (pfk (.bool false) rfl rfl rfl) (sv (mvv (.bool false) rfl) (W.n (gn rfl rfl rfl rfl) (W.n (gn rfl rfl rfl rfl) (W.n (gn rfl rfl rfl rfl) (sv (pfk (.bool false) rfl rfl rfl) (sv (asv (.bool false) rfl) ?_)))))))))))
            refine W.e ?_
            obtain rfl := Option.some.inj h58
            exact ⟨_, C, ⟨rfl, trivial⟩⟩
        · refine W.n (gn rfl rfl rfl b61) (W.n (gn rfl rfl rfl b61) (sv (pfk (.bool false) rfl b61 rfl) (sv (mvv (.bool false) rfl) (W.n (gn rfl rfl rfl rfl) (W.n (gn rfl rfl rfl rfl) (sv (pfk (.bool false) rfl rfl rfl) (sv (mvv (.bool false) rfl) (W.n (gn rfl rfl rfl rfl) (W.n (gn rfl rfl rfl rfl) (W.n (gn rfl rfl rfl rfl) (sv (pfk (.bool false) rfl rfl rfl) ?_)))))))))))
          refine sv (mvv (.bool false) rfl) (W.n (gn rfl rfl rfl rfl) (W.n (gn rfl rfl rfl rfl) (W.n (gn rfl rfl rfl rfl) (sv (pfk (.bool false) rfl rfl rfl) (sv (mvv (.bool false) rfl) (W.n (gn rfl rfl rfl rfl) (W.n (gn rfl rfl rfl rfl) (W.n (gn rfl rfl rfl rfl) (sv (pfk (.bool false) rfl rfl rfl) (sv (mvv (.bool false) rfl) (W.n (gn rfl rfl rfl rfl) ?_)))))))))))
          refine W.n (gn rfl rfl rfl rfl) (W.n (gn rfl rfl rfl rfl) (sv (pfk (.bool false) rfl rfl rfl) (sv (asv (.bool false) rfl) (W.e ?_))))
          obtain rfl := Option.some.inj h58
          exact ⟨_, C, ⟨rfl, trivial⟩⟩
      · refine W.n (gn rfl rfl rfl b60) (W.n (gn rfl rfl rfl b60) (sv (pfk (.bool false) rfl b60 rfl) (sv (mvv (.bool false) rfl) (W.n (gn rfl rfl rfl rfl) (W.n (gn rfl rfl rfl rfl) (sv (pfk (.bool false) rfl rfl rfl) (sv (mvv (.bool false) rfl) (W.n (gn rfl rfl rfl rfl) (W.n (gn rfl rfl rfl rfl) (sv (pfk (.bool false) rfl rfl rfl) (sv (mvv (.bool false) rfl) ?_)))))))))))
        refine W.n (gn rfl rfl rfl rfl) (W.n (gn rfl rfl rfl rfl) (W.n (gn rfl rfl rfl rfl) (sv (pfk (.bool false) rfl rfl rfl) (sv (mvv (.bool false) rfl) (W.n (gn rfl rfl rfl rfl) (W.n (gn rfl rfl rfl rfl) (W.n (gn rfl rfl rfl rfl) (sv (pfk (.bool false) rfl rfl rfl) (sv (mvv (.bool false) rfl) (W.n (gn rfl rfl rfl rfl) (W.n (gn rfl rfl rfl rfl) ?_)))))))))))
        refine W.n (gn rfl rfl rfl rfl) (sv (pfk (.bool false) rfl rfl rfl) (sv (mvv (.bool false) rfl) (W.n (gn rfl rfl rfl rfl) (W.n (gn rfl rfl rfl rfl) (W.n (gn rfl rfl rfl rfl) (sv (pfk (.bool false) rfl rfl rfl) (sv (asv (.bool false) rfl) (W.e ?_))))))))
        obtain rfl := Option.some.inj h58
        exact ⟨_, C, ⟨rfl, trivial⟩⟩
    · refine W.n (gn rfl rfl rfl b59) (W.n (gn rfl rfl rfl b59) (sv (pfk (.bool false) rfl b59 rfl) (sv (mvv (.bool false) rfl) (W.n (gn rfl rfl rfl rfl) (W.n (gn rfl rfl rfl rfl) (sv (pfk (.bool false) rfl rfl rfl) (sv (mvv (.bool false) rfl) (W.n (gn rfl rfl rfl rfl) (W.n (gn rfl rfl rfl rfl) (sv (pfk (.bool false) rfl rfl rfl) (sv (mvv (.bool false) rfl) ?_)))))))))))
      refine W.n (gn rfl rfl rfl rfl) (W.n (gn rfl rfl rfl rfl) (sv (pfk (.bool false) rfl rfl rfl) (sv (mvv (.bool false) rfl) (W.n (gn rfl rfl rfl rfl) (W.n (gn rfl rfl rfl rfl) (W.n (gn rfl rfl rfl rfl) (sv (pfk (.bool false) rfl rfl rfl) (sv (mvv (.bool false) rfl) (W.n (gn rfl rfl rfl rfl) (W.n (gn rfl rfl rfl rfl) (W.n (gn rfl rfl rfl rfl) ?_)))))))))))
      refine sv (pfk (.bool false) rfl rfl rfl) (sv (mvv (.bool false) rfl) (W.n (gn rfl rfl rfl rfl) (W.n (gn rfl rfl rfl rfl) (W.n (gn rfl rfl rfl rfl) (sv (pfk (.bool false) rfl rfl rfl) (sv (mvv (.bool false) rfl) (W.n (gn rfl rfl rfl rfl) (W.n (gn rfl rfl rfl rfl) (W.n (gn rfl rfl rfl rfl) (sv (pfk (.bool false) rfl rfl rfl) (sv (asv (.bool false) rfl) ?_)))))))))))
      refine W.e ?_
      obtain rfl := Option.some.inj h58
      exact ⟨_, C, ⟨rfl, trivial⟩⟩
  · rintro ρ w83 ⟨S82, C, h84⟩
    refine h84.cw fun ρ => ?_
    clear h84
    refine cw_ret ?_
    obtain rfl := Option.some.inj h
    exact ⟨_, rfl, _, rfl, C⟩

noncomputable def marigraphlaw06_few (a0 : List Int) : Option (List Int) :=
  (pur (if (4200 : Int) < (a0.length : Int) then (4200 : Int) else (a0.length : Int)) fun y5 => ((upto_ a0 y5).bind fun y7 => some y7))
set_option maxRecDepth 100000 in
set_option maxHeartbeats 4000000 in
theorem marigraphlaw06_few_w {S : Nat → Prop} {w : World} {a0 : List Int} {v0 : Value} {r : (List Int)} (hS : Sb S w) (h0 : Sl (kSl (kI .i64)) S w v0 a0) (h : marigraphlaw06_few a0 = some r) :
    Calls Try.prog 19 (List.toArray [v0]) w fun e w1 => ∃ S1 u0, e = .returned (u0) ∧ Cx No S w S1 w1 ∧ Sl (kSl (kI .i64)) S1 w1 u0 r := by
  refine enter Try.func19 rfl (by kernel_rfl) rfl ?_
  have C := Cx.refl (F := No) hS
  unfold marigraphlaw06_few at h
  refine cw_seq fun K1 k2 => ?_
  refine cw_region (sv (asv (.slice none 0 0) rfl) (W.e (k2 _ _ ?_)))
  refine cw_seq fun K3 k4 => ?_
  refine cw_region (sv (mvv v0 rfl) (sv (mvv v0 rfl) (sv (rv_lenS el22 h0 rfl) ?_)))
  obtain ⟨y5, h6, h⟩ := pur_some h
  refine sv (rv_min rfl rfl h6) ?_
  obtain ⟨y7, h8, h⟩ := bnd_some h
  obtain ⟨v9, h10, h11⟩ := rv_uptoA (P := Try.prog) el22 h0 h8
  refine sv (h11 rfl rfl) (sv (asv v9 rfl) (W.e (k4 _ _ (cw_ret ?_))))
  obtain rfl := Option.some.inj h
  exact ⟨_, rfl, _, _, rfl, C, h10⟩

noncomputable def post_With (a0 : List Int) (a1 : Int) : Option ((List Int) × Int) :=
  (bif (decide (a1 < (0 : Int))) then some (([] : List Int), (1 : Int)) else ((post_Or a0 ([a1] : List Int)).bind fun y17 => some (y17.1, y17.2)))
set_option maxRecDepth 100000 in
set_option maxHeartbeats 4000000 in
theorem post_With_w {S : Nat → Prop} {w : World} {a0 : List Int} {a1 : Int} {v0 : Value} {r : (List Int) × Int} (hS : Sb S w) (h0 : Sl (kSl (kI .i64)) S w v0 a0) (h : post_With a0 a1 = some r) :
    Calls Try.prog 20 (List.toArray [v0, .int .i64 a1]) w fun e w1 => ∃ S1 u0, e = .returned (.tuple (List.toArray [u0, .int .i64 r.2])) ∧ Cx No S w S1 w1 ∧ Sl (kSl (kI .i64)) S1 w1 u0 r.1 := by
  refine enter Try.func20 rfl (by kernel_rfl) rfl ?_
  have C := Cx.refl (F := No) hS
  unfold post_With at h
  refine cw_seq fun K1 k2 => ?_
  refine cw_region (sv (asv (.slice none 0 0) rfl) (sv (asv (.int .i64 0) rfl) (W.e (k2 _ _ ?_))))
  refine cw_seq fun K3 k4 => ?_
  refine cw_seq fun K5 k6 => ?_
  refine cw_region (sv (mvv (.int .i64 a1) rfl) (sv (rv_lss rfl rfl) (W.e (k6 _ _ ?_))))
  rcases bif_some h with ⟨b7, h⟩ | ⟨b7, h⟩
  · refine cw_t rfl b7 ?_
    refine cw_seq fun K8 k9 => ?_
    refine cw_region (sv (asv (.slice none 0 0) rfl) (sv (asv (.int .i64 1) rfl) (W.e (k9 _ _ (cw_ret ?_)))))
    obtain rfl := Option.some.inj h
    exact ⟨_, rfl, _, _, rfl, C, (sl_nil _ _ _)⟩
  · refine cw_f rfl b7 (cw_skip (k4 _ _ ?_))
    refine cw_seq fun K10 k11 => ?_
    refine cw_region (sv (mvv v0 rfl) (sv (mvv (.int .i64 a1) rfl) ?_))
    refine sc (dc_lit (vs := [.int .i64 a1]) (xs := ([a1] : List Int)) (base := w.heap.size) el22 rfl rfl (.cons (sl_sc.2 rfl) (.nil)) (Nat.le_of_ble_eq_true rfl) C.up.size C.sb fun v12 w13 h14 h15 u16 => ?_)
    replace h0 := h0.nw u16
    replace C := C.new u16
    replace h0 := h0.or (T := Blk v12)
    replace C := C.sealO h14
    replace h14 := h14.sealed
    obtain ⟨y17, h18, h⟩ := bnd_some h
    refine sc (dc_call (vs := [v0, v12]) can17 rfl ?_)
    refine (post_Or_w C.sb h0 h14 h18).mono ?_
    rintro _ w19 ⟨S20, v22, rfl, c21, h23⟩
    refine ⟨_, rfl, ?_⟩
    replace C := C.trans c21
    refine sv (rv_extract rfl rfl) (sv (rv_extract rfl rfl) (sv (asv v22 rfl) (sv (asv (.int .i64 y17.2) rfl) (W.e (k11 _ _ (cw_ret ?_))))))
    obtain rfl := Option.some.inj h
    exact ⟨_, rfl, _, _, rfl, C, h23⟩

noncomputable def marigraphref06_Right.b2 (a0 : List Int) (x13 : Int) : Option ((Int) ⊕ ((Unit) ⊕ (Bool))) :=
  (bif (decide (x13 < (a0.length : Int))) then ((((at_ a0 x13).bind fun y32 => (bif (decide (y32 < (0 : Int))) then some true else (bif (decide ((0 : Int) < x13)) then ((at_ a0 x13).bind fun y36 => (pur (IntKind.i64.wrap (x13 - (1 : Int))) fun y38 => ((at_ a0 y38).bind fun y40 => some (decide (y36 ≤ y40))))) else some false))).bind fun o25 => (bif o25 then some (.inr (.inr (.inr false))) else some (.inl ()))).bind (Sum.elim (fun o21n => (pur (IntKind.i64.wrap (x13 + (1 : Int))) fun y52 => some (.inl y52))) (fun q => some q))) else some (.inr (.inl ())))
noncomputable def marigraphref06_Right (a0 : List Int) : Option Bool :=
  ((iter (fun s : Int => marigraphref06_Right.b2 a0 s) (0 : Int)).bind (Sum.elim (fun o3n => some (decide ((a0.length : Int) ≤ (4096 : Int)))) (fun q => some q)))
set_option maxRecDepth 100000 in
set_option maxHeartbeats 4000000 in
theorem marigraphref06_Right_w {S : Nat → Prop} {w : World} {a0 : List Int} {v0 : Value} {r : Bool} (hS : Sb S w) (h0 : Sl (kSl (kI .i64)) S w v0 a0) (h : marigraphref06_Right a0 = some r) :
    Calls Try.prog 26 (List.toArray [v0]) w fun e w1 => ∃ S1, e = .returned (.bool r) ∧ Cx No S w S1 w1 := by
  refine enter Try.func26 rfl (by kernel_rfl) rfl ?_
  have C := Cx.refl (F := No) hS
  unfold marigraphref06_Right at h
  refine cw_seq fun K1 k2 => ?_
  refine cw_region (sv (asv (.bool false) rfl) (W.e (k2 _ _ ?_)))
  obtain ⟨o3, h6, h⟩ := bnds_some h
  refine cw_seq' (fun ρ w1 => ∃ o3n, o3 = (.inl o3n) ∧ ∃ S1, Cx No S w S1 w1 ∧ Has ρ [(0, v0)] ∧ Sl (kSl (kI .i64)) S1 w1 v0 a0) ?_ ?_
  · refine cw_seq fun K7 k8 => ?_
    refine cw_region (sv (asv (.int .i64 0) rfl) (W.e (k8 _ _ (cw_block ?_))))
    refine cw_iter h6 (fun s ρ w1 => ∃ S1, Cx No S w S1 w1 ∧ Has ρ [(0, v0), (3, .int .i64 s)] ∧ Sl (kSl (kI .i64)) S1 w1 v0 a0) ⟨_, C, ⟨rfl, rfl, trivial⟩, h0⟩ ?_
    rintro x13 q9 ρ w11 ⟨S10, C, h12, h0⟩ h15 h14
    refine h12.cw fun ρ => ?_
    clear h12
    replace h15 : marigraphref06_Right.b2 a0 x13 = some q9 := h15
    unfold marigraphref06_Right.b2 at h15
    refine cw_seq fun K16 k17 => ?_
    refine cw_seq fun K18 k19 => ?_
    refine cw_region (sv (mvv (.int .i64 x13) rfl) (sv (mvv v0 rfl) (sv (rv_lenS el22 h0 rfl) (sv (rv_lss rfl rfl) (W.e (k19 _ _ ?_))))))
    rcases bif_some h15 with ⟨b20, h15⟩ | ⟨b20, h15⟩
    · refine cw_t rfl b20 (cw_skip (k17 _ _ ?_))
      obtain ⟨o21, h24, h15⟩ := bnds_some h15
      refine cw_seq' (fun ρ w1 => ∃ o21n, o21 = (.inl o21n) ∧ ∃ S1, Cx No S w S1 w1 ∧ Has ρ [(0, v0), (3, .int .i64 x13)] ∧ Sl (kSl (kI .i64)) S1 w1 v0 a0) ?_ ?_
      · refine cw_block ?_
        obtain ⟨o25, h28, h24⟩ := bnd_some h24
        refine cw_seq' (fun ρ w1 => ∃ S1, Cx No S w S1 w1 ∧ Has ρ [(0, v0), (3, .int .i64 x13), (30, .bool o25)] ∧ Sl (kSl (kI .i64)) S1 w1 v0 a0) ?_ ?_
        · refine cw_draw' [(0, true), (1, true), (2, true), (3, true), (4, true), (5, true), (6, true), (7, true), (8, true), (9, true), (10, true), (11, true), (12, true), (13, true), (14, true), (15, true), (16, true), (17, true), (18, true), (19, true), (20, true)] fol (by kernel_rfl) fun w29 u30 => ?_
          replace h0 := h0.nw u30
          replace C := C.new u30
          refine ⟨Sm S10 w29, Sm.refl _ _, ?_⟩
          refine msv rfl (mvv v0 rfl) (msv rfl (mvv (.int .i64 x13) rfl) ?_)
          obtain ⟨y32, h33, h28⟩ := bnd_some h28
          refine msv rfl (rv_index el22 h0 rfl rfl h33) (msr rfl (fun w' hw => rw_loadC el22 h0 h33 rfl w' hw) (msv rfl (rv_lss rfl rfl) (msv rfl (mvv (.bool (decide (y32 < (0 : Int)))) rfl) ?_)))
          rcases bif_some h28 with ⟨b34, h28⟩ | ⟨b34, h28⟩
          · refine M.n rfl (gn rfl rfl rfl b34) (M.n rfl (gn rfl rfl rfl b34) (M.n rfl (gn rfl rfl rfl b34) (M.n rfl (gu rfl rfl rfl) (M.n rfl (gu rfl rfl rfl) (M.n rfl (gu rfl rfl rfl) (M.n rfl (gu rfl rfl rfl) (M.n rfl (gu rfl rfl rfl) (M.n rfl (gu rfl rfl rfl) (M.n rfl (gu rfl rfl rfl) (M.n rfl (gu rfl rfl rfl) (M.n rfl (gu rfl rfl rfl) ?_)))))))))))
            refine M.n rfl (gu rfl rfl rfl) (M.n rfl (gn rfl rfl rfl b34) (msv rfl (ptk (.bool true) rfl b34 rfl) (M.e ?_)))
            obtain rfl := Option.some.inj h28
            exact ⟨_, C, ⟨rfl, rfl, rfl, trivial⟩, h0⟩
          · refine M.v rfl (gy rfl rfl rfl b34) (mvv (.int .i64 x13) rfl) (M.v rfl (gy rfl rfl rfl b34) (rv_gtr rfl rfl) (M.v rfl (gy rfl rfl rfl b34) (mvv (.bool (decide ((0 : Int) < x13))) rfl) ?_))
            rcases bif_some h28 with ⟨b35, h28⟩ | ⟨b35, h28⟩
            · refine M.v rfl (gy rfl rfl rfl b35) (mvv v0 rfl) (M.v rfl (gy rfl rfl rfl b35) (mvv (.int .i64 x13) rfl) ?_)
              obtain ⟨y36, h37, h28⟩ := bnd_some h28
              refine M.v rfl (gy rfl rfl rfl b35) (rv_index el22 h0 rfl rfl h37) (M.r rfl (gy rfl rfl rfl b35) (fun w' hw => rw_loadC el22 h0 h37 rfl w' hw) (M.v rfl (gy rfl rfl rfl b35) (mvv v0 rfl) (M.v rfl (gy rfl rfl rfl b35) (mvv (.int .i64 x13) rfl) ?_)))
              obtain ⟨y38, h39, h28⟩ := pur_some h28
              refine M.v rfl (gy rfl rfl rfl b35) (rv_sub rfl rfl h39) ?_
              obtain ⟨y40, h41, h28⟩ := bnd_some h28
              refine M.v rfl (gy rfl rfl rfl b35) (rv_index el22 h0 rfl rfl h41) (M.r rfl (gy rfl rfl rfl b35) (fun w' hw => rw_loadC el22 h0 h41 rfl w' hw) (M.v rfl (gy rfl rfl rfl b35) (rv_leq rfl rfl) (M.v rfl (gy rfl rfl rfl b34) (ptk (.bool (decide (y36 ≤ y40))) rfl b35 rfl) (msv rfl (pfk (.bool (decide (y36 ≤ y40))) rfl b34 rfl) (M.e ?_)))))
              obtain rfl := Option.some.inj h28
              exact ⟨_, C, ⟨rfl, rfl, rfl, trivial⟩, h0⟩
            · refine M.n rfl (gn rfl rfl rfl b35) (M.n rfl (gn rfl rfl rfl b35) (M.n rfl (gn rfl rfl rfl b35) (M.n rfl (gn rfl rfl rfl b35) (M.n rfl (gn rfl rfl rfl b35) (M.n rfl (gn rfl rfl rfl b35) (M.n rfl (gn rfl rfl rfl b35) (M.n rfl (gn rfl rfl rfl b35) (M.n rfl (gn rfl rfl rfl b35) (M.n rfl (gn rfl rfl rfl b35) (M.v rfl (gy rfl rfl rfl b34) (pfk (.bool false) rfl b35 rfl) (msv rfl (pfk (.bool false) rfl b34 rfl) ?_)))))))))))
              refine M.e ?_
              obtain rfl := Option.some.inj h28
              exact ⟨_, C, ⟨rfl, rfl, rfl, trivial⟩, h0⟩
        · rintro ρ w43 ⟨S42, C, h44, h0⟩
          refine h44.cw fun ρ => ?_
          clear h44
          rcases bif_some h24 with ⟨b45, h24⟩ | ⟨b45, h24⟩
          · refine cw_t rfl b45 ?_
            refine cw_seq fun K46 k47 => ?_
            refine cw_region (sv (asv (.bool false) rfl) (W.e (k47 _ _ (cw_ret ?_))))
            obtain rfl := Option.some.inj h24
            replace h15 := h15.2 _ rfl
            obtain rfl := Option.some.inj h15
            have h48 := congrArg some h14
            obtain rfl := Option.some.inj h48
            replace h := h.2 _ rfl
            obtain rfl := Option.some.inj h
            exact ⟨_, rfl, _, rfl, C⟩
          · refine cw_f rfl b45 (cw_skip ?_)
            obtain rfl := Option.some.inj h24
            exact ⟨_, rfl, ⟨_, C, ⟨rfl, rfl, trivial⟩, h0⟩⟩
      · rintro ρ w50 ⟨o21n, rfl, ⟨S49, C, h51, h0⟩⟩
        replace h15 := h15.1 _ rfl
        refine h51.cw fun ρ => ?_
        clear h51
        refine cw_region (sv (mvv (.int .i64 x13) rfl) ?_)
        obtain ⟨y52, h53, h15⟩ := pur_some h15
        refine sv (rv_add rfl rfl h53) (sv (asv (.int .i64 y52) rfl) (W.e ?_))
        obtain rfl := Option.some.inj h15
        exact ⟨_, rfl, ⟨_, C, ⟨rfl, rfl, trivial⟩, h0⟩⟩
    · refine cw_f rfl b20 (cw_exit ?_)
      obtain rfl := Option.some.inj h15
      have h54 := congrArg some h14
      obtain rfl := Option.some.inj h54
      exact ⟨_, rfl, ⟨_, C, ⟨rfl, trivial⟩, h0⟩⟩
  · rintro ρ w56 ⟨o3n, rfl, ⟨S55, C, h57, h0⟩⟩
    replace h := h.1 _ rfl
    refine h57.cw fun ρ => ?_
    clear h57
    refine cw_seq fun K58 k59 => ?_
    refine cw_region (sv (mvv v0 rfl) (sv (rv_lenS el22 h0 rfl) (sv (rv_leq rfl rfl) (sv (asv (.bool (decide ((a0.length : Int) ≤ (4096 : Int)))) rfl) (W.e (k59 _ _ (cw_ret ?_)))))))
    obtain rfl := Option.some.inj h
    exact ⟨_, rfl, _, rfl, C⟩

noncomputable def marigraphref06_in.b2 (a0 : List Int) (a1 : Int) (x15 : Int) (x16 : Int) : Option ((Int × Int) ⊕ (Int)) :=
  (bif (decide (x15 < x16)) then (pur (IntKind.i64.wrap (x15 + x16)) fun y26 => (pur (IntKind.i64.wrap (Int.tdiv y26 (2 : Int))) fun y28 => ((at_ a0 y28).bind fun y32 => (bif (decide (y32 < a1)) then (pur (IntKind.i64.wrap (y28 + (1 : Int))) fun y35 => some (.inl (y35, x16))) else some (.inl (x15, y28)))))) else some (.inr x15))
noncomputable def marigraphref06_in (a0 : List Int) (a1 : Int) : Option Bool :=
  ((iter (fun s : Int × Int => marigraphref06_in.b2 a0 a1 s.1 s.2) ((0 : Int), (a0.length : Int))).bind fun o7 => ((bif (decide (o7 < (a0.length : Int))) then ((at_ a0 o7).bind fun y46 => some (y46 == a1)) else some false).bind fun o41 => some o41))
set_option maxRecDepth 100000 in
set_option maxHeartbeats 4000000 in
theorem marigraphref06_in_w {S : Nat → Prop} {w : World} {a0 : List Int} {a1 : Int} {v0 : Value} {r : Bool} (hS : Sb S w) (h0 : Sl (kSl (kI .i64)) S w v0 a0) (h : marigraphref06_in a0 a1 = some r) :
    Calls Try.prog 34 (List.toArray [v0, .int .i64 a1]) w fun e w1 => ∃ S1, e = .returned (.bool r) ∧ Cx No S w S1 w1 := by
  refine enter Try.func34 rfl (by kernel_rfl) rfl ?_
  have C := Cx.refl (F := No) hS
  unfold marigraphref06_in at h
  refine cw_seq fun K1 k2 => ?_
  refine cw_region (sv (asv (.bool false) rfl) (W.e (k2 _ _ ?_)))
  refine cw_seq fun K3 k4 => ?_
  refine cw_region (sv (asv (.int .i64 0) rfl) (W.e (k4 _ _ ?_)))
  refine cw_seq fun K5 k6 => ?_
  refine cw_region (sv (mvv v0 rfl) (sv (rv_lenS el22 h0 rfl) (sv (asv (.int .i64 (a0.length : Int)) rfl) (W.e (k6 _ _ ?_)))))
  obtain ⟨o7, h10, h⟩ := bnd_some h
  refine cw_seq' (fun ρ w1 => ∃ S1, Cx No S w S1 w1 ∧ Has ρ [(0, v0), (1, .int .i64 a1), (5, .int .i64 o7)] ∧ Sl (kSl (kI .i64)) S1 w1 v0 a0) ?_ ?_
  · refine cw_block ?_
    refine cw_iter h10 (fun s ρ w1 => ∃ S1, Cx No S w S1 w1 ∧ Has ρ [(0, v0), (1, .int .i64 a1), (5, .int .i64 s.1), (6, .int .i64 s.2)] ∧ Sl (kSl (kI .i64)) S1 w1 v0 a0) ⟨_, C, ⟨rfl, rfl, rfl, rfl, trivial⟩, h0⟩ ?_
    rintro ⟨x15, x16⟩ q11 ρ w13 ⟨S12, C, h14, h0⟩ h18 h17
    refine h14.cw fun ρ => ?_
    clear h14
    replace h18 : marigraphref06_in.b2 a0 a1 x15 x16 = some q11 := h18
    unfold marigraphref06_in.b2 at h18
    refine cw_seq fun K19 k20 => ?_
    refine cw_seq fun K21 k22 => ?_
    refine cw_region (sv (mvv (.int .i64 x15) rfl) (sv (mvv (.int .i64 x16) rfl) (sv (rv_lss rfl rfl) (W.e (k22 _ _ ?_)))))
    rcases bif_some h18 with ⟨b23, h18⟩ | ⟨b23, h18⟩
    · refine cw_t rfl b23 (cw_skip (k20 _ _ (cw_block ?_)))
      refine cw_seq fun K24 k25 => ?_
      refine cw_region (sv (mvv (.int .i64 x15) rfl) (sv (mvv (.int .i64 x16) rfl) ?_))
      obtain ⟨y26, h27, h18⟩ := pur_some h18
      refine sv (rv_add rfl rfl h27) ?_
      obtain ⟨y28, h29, h18⟩ := pur_some h18
      refine sv (rv_quo rfl rfl (by decide) h29) (sv (asv (.int .i64 y28) rfl) (W.e (k25 _ _ ?_)))
      refine cw_seq fun K30 k31 => ?_
      refine cw_region (sv (mvv v0 rfl) (sv (mvv (.int .i64 y28) rfl) ?_))
      obtain ⟨y32, h33, h18⟩ := bnd_some h18
      refine sv (rv_index el22 h0 rfl rfl h33) (sr (rw_loadC el22 h0 h33 rfl _ (Sm.refl _ _)) (sv (mvv (.int .i64 a1) rfl) (sv (rv_lss rfl rfl) (W.e (k31 _ _ ?_)))))
      rcases bif_some h18 with ⟨b34, h18⟩ | ⟨b34, h18⟩
      · refine cw_t rfl b34 (cw_region (sv (mvv (.int .i64 y28) rfl) ?_))
        obtain ⟨y35, h36, h18⟩ := pur_some h18
        refine sv (rv_add rfl rfl h36) (sv (asv (.int .i64 y35) rfl) (W.e ?_))
        obtain rfl := Option.some.inj h18
        exact ⟨_, rfl, ⟨_, C, ⟨rfl, rfl, rfl, rfl, trivial⟩, h0⟩⟩
      · refine cw_f rfl b34 (cw_region (sv (mvv (.int .i64 y28) rfl) (sv (asv (.int .i64 y28) rfl) (W.e ?_))))
        obtain rfl := Option.some.inj h18
        exact ⟨_, rfl, ⟨_, C, ⟨rfl, rfl, rfl, rfl, trivial⟩, h0⟩⟩
    · refine cw_f rfl b23 (cw_exit ?_)
      obtain rfl := Option.some.inj h18
      have h37 := congrArg some h17
      obtain rfl := Option.some.inj h37
      exact ⟨_, C, ⟨rfl, rfl, rfl, trivial⟩, h0⟩
  · rintro ρ w39 ⟨S38, C, h40, h0⟩
    refine h40.cw fun ρ => ?_
    clear h40
    obtain ⟨o41, h44, h⟩ := bnd_some h
    refine cw_seq' (fun ρ w1 => ∃ S1, Cx No S w S1 w1 ∧ Has ρ [(4, .bool o41)]) ?_ ?_
    · refine cw_region (sv (mvv (.int .i64 o7) rfl) (sv (mvv v0 rfl) (sv (rv_lenS el22 h0 rfl) (sv (rv_lss rfl rfl) (sv (mvv (.bool (decide (o7 < (a0.length : Int)))) rfl) ?_)))))
      rcases bif_some h44 with ⟨b45, h44⟩ | ⟨b45, h44⟩
      · refine W.v (gy rfl rfl rfl b45) (mvv v0 rfl) (W.v (gy rfl rfl rfl b45) (mvv (.int .i64 o7) rfl) ?_)
        obtain ⟨y46, h47, h44⟩ := bnd_some h44
        refine W.v (gy rfl rfl rfl b45) (rv_index el22 h0 rfl rfl h47) (W.r (gy rfl rfl rfl b45) (rw_loadC el22 h0 h47 rfl _ (Sm.refl _ _)) (W.v (gy rfl rfl rfl b45) (mvv (.int .i64 a1) rfl) (W.v (gy rfl rfl rfl b45) (rv_eql rfl rfl) (sv (ptk (.bool (y46 == a1)) rfl b45 rfl) (sv (asv (.bool (y46 == a1)) rfl) (W.e ?_))))))
        obtain rfl := Option.some.inj h44
        exact ⟨_, C, ⟨rfl, trivial⟩⟩
      · refine W.n (gn rfl rfl rfl b45) (W.n (gn rfl rfl rfl b45) (W.n (gn rfl rfl rfl b45) (W.n (gn rfl rfl rfl b45) (W.n (gn rfl rfl rfl b45) (W.n (gn rfl rfl rfl b45) (sv (pfk (.bool false) rfl b45 rfl) (sv (asv (.bool false) rfl) (W.e ?_))))))))
        obtain rfl := Option.some.inj h44
        exact ⟨_, C, ⟨rfl, trivial⟩⟩
    · rintro ρ w49 ⟨S48, C, h50⟩
      refine h50.cw fun ρ => ?_
      clear h50
      refine cw_ret ?_
      obtain rfl := Option.some.inj h
      exact ⟨_, rfl, _, rfl, C⟩

noncomputable def marigraphref06_Both.b4 (a0 : List Int) (a1 : List Int) (a2 : Int) (x45 : List Int) (x46 : Int) : Option (((List Int) × Int) ⊕ ((List Int))) :=
  (bif (decide (x46 < (a0.length : Int))) then (((bif (a2 == (1 : Int)) then some true else ((at_ a0 x46).bind fun y63 => ((marigraphref06_in a1 y63).bind fun y65 => some (y65 == (a2 == (0 : Int)))))).bind fun o58 => (bif o58 then ((at_ a0 x46).bind fun y74 => ((app_ 8 x45 ([y74] : List Int)).bind fun y82 => some y82)) else some x45)).bind fun o54 => (pur (IntKind.i64.wrap (x46 + (1 : Int))) fun y95 => some (.inl (o54, y95)))) else some (.inr x45))
noncomputable def marigraphref06_Both.b8 (a1 : List Int) (a2 : Int) (x115 : List Int) (x116 : Int) : Option (((List Int) × Int) ⊕ ((List Int))) :=
  (((bif (decide (x116 < (a1.length : Int))) then some (a2 == (1 : Int)) else some false).bind fun o123 => (bif o123 then some (.inl ()) else some (.inr (.inr x115)))).bind (Sum.elim (fun o119n => ((at_ a1 x116).bind fun y138 => ((marigraphref06_put x115 y138).bind fun y140 => (pur (IntKind.i64.wrap (x116 + (1 : Int))) fun y147 => some (.inl (y140, y147)))))) (fun q => some q)))
noncomputable def marigraphref06_Both (a0 : List Int) (a1 : List Int) (a2 : Int) : Option ((List Int) × Int) :=
  ((((marigraphref06_Right a0).bind fun y11 => (bif (!y11) then some true else ((marigraphref06_Right a1).bind fun y17 => some (!y17)))).bind fun o7 => (bif o7 then some (.inr (([] : List Int), (1 : Int))) else some (.inl ()))).bind (Sum.elim (fun o3n => ((iter (fun s : (List Int) × Int => marigraphref06_Both.b4 a0 a1 a2 s.1 s.2) (([] : List Int), (0 : Int))).bind fun o33 => ((iter (fun s : (List Int) × Int => marigraphref06_Both.b8 a1 a2 s.1 s.2) (o33, (0 : Int))).bind fun o103 => (bif (decide ((4096 : Int) < (o103.length : Int))) then some (([] : List Int), (3 : Int)) else some (o103, (0 : Int)))))) (fun q => some q)))
set_option maxRecDepth 100000 in
set_option maxHeartbeats 4000000 in
theorem marigraphref06_Both_w {S : Nat → Prop} {w : World} {a0 : List Int} {a1 : List Int} {a2 : Int} {v0 v1 : Value} {r : (List Int) × Int} (hS : Sb S w) (h0 : Sl (kSl (kI .i64)) S w v0 a0) (h1 : Sl (kSl (kI .i64)) S w v1 a1) (h : marigraphref06_Both a0 a1 a2 = some r) :
    Calls Try.prog 21 (List.toArray [v0, v1, .int .i64 a2]) w fun e w1 => ∃ S1 u0, e = .returned (.tuple (List.toArray [u0, .int .i64 r.2])) ∧ Cx No S w S1 w1 ∧ Sl (kSl (kI .i64)) S1 w1 u0 r.1 := by
  refine enter Try.func21 rfl (by kernel_rfl) rfl ?_
  have C := Cx.refl (F := No) hS
  unfold marigraphref06_Both at h
  refine cw_seq fun K1 k2 => ?_
  refine cw_region (sv (asv (.slice none 0 0) rfl) (sv (asv (.int .i64 0) rfl) (W.e (k2 _ _ ?_))))
  obtain ⟨o3, h6, h⟩ := bnds_some h
  refine cw_seq' (fun ρ w1 => ∃ o3n, o3 = (.inl o3n) ∧ ∃ S1, Cx No S w S1 w1 ∧ Has ρ [(0, v0), (1, v1), (2, .int .i64 a2)] ∧ Sl (kSl (kI .i64)) S1 w1 v0 a0 ∧ Sl (kSl (kI .i64)) S1 w1 v1 a1) ?_ ?_
  · obtain ⟨o7, h10, h6⟩ := bnd_some h6
    refine cw_seq' (fun ρ w1 => ∃ S1, Cx No S w S1 w1 ∧ Has ρ [(0, v0), (1, v1), (2, .int .i64 a2), (18, .bool o7)] ∧ Sl (kSl (kI .i64)) S1 w1 v0 a0 ∧ Sl (kSl (kI .i64)) S1 w1 v1 a1) ?_ ?_
    · refine cw_region (sv (mvv v0 rfl) ?_)
      obtain ⟨y11, h12, h10⟩ := bnd_some h10
      refine sc (dc_call (vs := [v0]) can26 rfl ?_)
      refine (marigraphref06_Right_w C.sb h0 h12).mono ?_
      rintro _ w13 ⟨S14, rfl, c15⟩
      refine ⟨_, rfl, ?_⟩
      replace h0 := h0.cx c15
      replace h1 := h1.cx c15
      replace C := C.trans c15
      refine sv (rv_not rfl) (sv (mvv (.bool (!y11)) rfl) ?_)
      rcases bif_some h10 with ⟨b16, h10⟩ | ⟨b16, h10⟩
      · refine W.n (gn rfl rfl rfl b16) (W.n (gn rfl rfl rfl b16) (W.n (gn rfl rfl rfl b16) (sv (ptk (.bool true) rfl b16 rfl) (W.e ?_))))
        obtain rfl := Option.some.inj h10
        exact ⟨_, C, ⟨rfl, rfl, rfl, rfl, trivial⟩, h0, h1⟩
      · refine W.v (gy rfl rfl rfl b16) (mvv v1 rfl) ?_
        obtain ⟨y17, h18, h10⟩ := bnd_some h10
        refine W.c (gy rfl rfl rfl b16) (dc_call (vs := [v1]) can26 rfl ?_)
        refine (marigraphref06_Right_w C.sb h1 h18).mono ?_
        rintro _ w19 ⟨S20, rfl, c21⟩
        refine ⟨_, rfl, ?_⟩
        replace h0 := h0.cx c21
        replace h1 := h1.cx c21
        replace C := C.trans c21
        refine W.v (gy rfl rfl rfl b16) (rv_not rfl) (sv (pfk (.bool (!y17)) rfl b16 rfl) (W.e ?_))
        obtain rfl := Option.some.inj h10
        exact ⟨_, C, ⟨rfl, rfl, rfl, rfl, trivial⟩, h0, h1⟩
    · rintro ρ w23 ⟨S22, C, h24, h0, h1⟩
      refine h24.cw fun ρ => ?_
      clear h24
      rcases bif_some h6 with ⟨b25, h6⟩ | ⟨b25, h6⟩
      · refine cw_t rfl b25 ?_
        refine cw_seq fun K26 k27 => ?_
        refine cw_region (sv (asv (.slice none 0 0) rfl) (sv (asv (.int .i64 1) rfl) (W.e (k27 _ _ (cw_ret ?_)))))
        obtain rfl := Option.some.inj h6
        replace h := h.2 _ rfl
        obtain rfl := Option.some.inj h
        exact ⟨_, rfl, _, _, rfl, C, (sl_nil _ _ _)⟩
      · refine cw_f rfl b25 (cw_skip ?_)
        obtain rfl := Option.some.inj h6
        exact ⟨_, rfl, ⟨_, C, ⟨rfl, rfl, rfl, trivial⟩, h0, h1⟩⟩
  · rintro ρ w29 ⟨o3n, rfl, ⟨S28, C, h30, h0, h1⟩⟩
    replace h := h.1 _ rfl
    refine h30.cw fun ρ => ?_
    clear h30
    refine cw_seq fun K31 k32 => ?_
    refine cw_region (sv (asv (.slice none 0 0) rfl) (W.e (k32 _ _ ?_)))
    obtain ⟨o33, h36, h⟩ := bnd_some h
    refine cw_seq' (fun ρ w1 => ∃ S1 v100, Cx No S w S1 w1 ∧ Has ρ [(1, v1), (2, .int .i64 a2), (8, v100)] ∧ Sl (kSl (kI .i64)) S1 w1 v1 a1 ∧ Ow (kI .i64) 3 S1 w.heap.size w1 v100 o33) ?_ ?_
    · refine cw_seq fun K37 k38 => ?_
      refine cw_region (sv (asv (.int .i64 0) rfl) (W.e (k38 _ _ (cw_block ?_))))
      refine cw_iter h36 (fun s ρ w1 => ∃ S1 v42, Cx No S w S1 w1 ∧ Has ρ [(0, v0), (1, v1), (2, .int .i64 a2), (8, v42), (9, .int .i64 s.2)] ∧ Sl (kSl (kI .i64)) S1 w1 v0 a0 ∧ Sl (kSl (kI .i64)) S1 w1 v1 a1 ∧ Ow (kI .i64) 3 S1 w.heap.size w1 v42 s.1) ⟨_, _, C, ⟨rfl, rfl, rfl, rfl, rfl, trivial⟩, h0, h1, Ow.nil _ _ _ _ _⟩ ?_
      rintro ⟨x45, x46⟩ q39 ρ w41 ⟨S40, v42, C, h44, h0, h1, h43⟩ h48 h47
      refine h44.cw fun ρ => ?_
      clear h44
      replace h48 : marigraphref06_Both.b4 a0 a1 a2 x45 x46 = some q39 := h48
      unfold marigraphref06_Both.b4 at h48
      refine cw_seq fun K49 k50 => ?_
      refine cw_seq fun K51 k52 => ?_
      refine cw_region (sv (mvv (.int .i64 x46) rfl) (sv (mvv v0 rfl) (sv (rv_lenS el22 h0 rfl) (sv (rv_lss rfl rfl) (W.e (k52 _ _ ?_))))))
      rcases bif_some h48 with ⟨b53, h48⟩ | ⟨b53, h48⟩
      · refine cw_t rfl b53 (cw_skip (k50 _ _ ?_))
        obtain ⟨o54, h57, h48⟩ := bnd_some h48
        refine cw_seq' (fun ρ w1 => ∃ S1 v92, Cx No S w S1 w1 ∧ Has ρ [(0, v0), (1, v1), (2, .int .i64 a2), (8, v92), (9, .int .i64 x46)] ∧ Sl (kSl (kI .i64)) S1 w1 v0 a0 ∧ Sl (kSl (kI .i64)) S1 w1 v1 a1 ∧ Ow (kI .i64) 3 S1 w.heap.size w1 v92 o54) ?_ ?_
        · refine cw_block ?_
          obtain ⟨o58, h61, h57⟩ := bnd_some h57
          refine cw_seq' (fun ρ w1 => ∃ S1, Cx No S w S1 w1 ∧ Has ρ [(0, v0), (1, v1), (2, .int .i64 a2), (8, v42), (9, .int .i64 x46), (37, .bool o58)] ∧ Sl (kSl (kI .i64)) S1 w1 v0 a0 ∧ Sl (kSl (kI .i64)) S1 w1 v1 a1 ∧ Ow (kI .i64) 3 S1 w.heap.size w1 v42 x45) ?_ ?_
          · refine cw_region (sv (mvv (.int .i64 a2) rfl) (sv (rv_eql rfl rfl) (sv (mvv (.bool (a2 == (1 : Int))) rfl) ?_)))
            rcases bif_some h61 with ⟨b62, h61⟩ | ⟨b62, h61⟩
            · refine W.n (gn rfl rfl rfl b62) (W.n (gn rfl rfl rfl b62) (W.n (gn rfl rfl rfl b62) (W.n (gn rfl rfl rfl b62) (W.n (gn rfl rfl rfl b62) (W.n (gn rfl rfl rfl b62) (W.n (gn rfl rfl rfl b62) (W.n (gn rfl rfl rfl b62) (W.n (gn rfl rfl rfl b62) (sv (ptk (.bool true) rfl b62 rfl) (W.e ?_))))))))))
              obtain rfl := Option.some.inj h61
              exact ⟨_, C, ⟨rfl, rfl, rfl, rfl, rfl, rfl, trivial⟩, h0, h1, h43⟩
            · refine W.v (gy rfl rfl rfl b62) (mvv v1 rfl) (W.v (gy rfl rfl rfl b62) (mvv v0 rfl) (W.v (gy rfl rfl rfl b62) (mvv (.int .i64 x46) rfl) ?_))
              obtain ⟨y63, h64, h61⟩ := bnd_some h61
              refine W.v (gy rfl rfl rfl b62) (rv_index el22 h0 rfl rfl h64) (W.r (gy rfl rfl rfl b62) (rw_loadC el22 h0 h64 rfl _ (Sm.refl _ _)) ?_)
              obtain ⟨y65, h66, h61⟩ := bnd_some h61
              refine W.c (gy rfl rfl rfl b62) (dc_call (vs := [v1, .int .i64 y63]) can34 rfl ?_)
              refine (marigraphref06_in_w C.sb h1 h66).mono ?_
              rintro _ w67 ⟨S68, rfl, c69⟩
              refine ⟨_, rfl, ?_⟩
              replace h0 := h0.cx c69
              replace h1 := h1.cx c69
              replace h43 := h43.cx c69
              replace C := C.trans c69
              refine W.v (gy rfl rfl rfl b62) (mvv (.int .i64 a2) rfl) (W.v (gy rfl rfl rfl b62) (rv_eql rfl rfl) (W.v (gy rfl rfl rfl b62) (rv_beql Try.underlying4 rfl rfl) (sv (pfk (.bool (y65 == (a2 == (0 : Int)))) rfl b62 rfl) (W.e ?_))))
              obtain rfl := Option.some.inj h61
              exact ⟨_, C, ⟨rfl, rfl, rfl, rfl, rfl, rfl, trivial⟩, h0, h1, h43⟩
          · rintro ρ w71 ⟨S70, C, h72, h0, h1, h43⟩
            refine h72.cw fun ρ => ?_
            clear h72
            rcases bif_some h57 with ⟨b73, h57⟩ | ⟨b73, h57⟩
            · refine cw_t rfl b73 (cw_region (sv (mvv v42 rfl) (sv (mvv v0 rfl) (sv (mvv (.int .i64 x46) rfl) ?_))))
              obtain ⟨y74, h75, h57⟩ := bnd_some h57
              refine sv (rv_index el22 h0 rfl rfl h75) (sr (rw_loadC el22 h0 h75 rfl _ (Sm.refl _ _)) ?_)
              refine sc (dc_lit (vs := [.int .i64 y74]) (xs := ([y74] : List Int)) (base := w.heap.size) el22 rfl rfl (.cons (sl_sc.2 rfl) (.nil)) (Nat.le_of_ble_eq_true rfl) C.up.size C.sb fun v76 w77 h78 h79 u80 => ?_)
              have p81 := Ap.new h79 h43
              replace h0 := h0.nw u80
              replace h1 := h1.nw u80
              replace h43 := h43.nw u80
              replace C := C.new u80
              obtain ⟨y82, h83, h57⟩ := bnd_some h57
              have h89 := h43
              refine sc (dc_append el22 (by decide) h89 h78.src rfl rfl h83 C.up.size C.sb fun v84 w85 h86 u87 h88 => ?_)
              replace h0 := h0.wr u87 h89.not
              replace h1 := h1.wr u87 h89.not
              replace C := C.ow h89 u87
              refine sv (asv v84 rfl) (W.e ?_)
              obtain rfl := Option.some.inj h57
              exact ⟨_, _, C, ⟨rfl, rfl, rfl, rfl, rfl, trivial⟩, h0, h1, h86⟩
            · refine cw_f rfl b73 (cw_skip ?_)
              obtain rfl := Option.some.inj h57
              exact ⟨_, _, C, ⟨rfl, rfl, rfl, rfl, rfl, trivial⟩, h0, h1, h43⟩
        · rintro ρ w91 ⟨S90, v92, C, h94, h0, h1, h93⟩
          refine h94.cw fun ρ => ?_
          clear h94
          refine cw_region (sv (mvv (.int .i64 x46) rfl) ?_)
          obtain ⟨y95, h96, h48⟩ := pur_some h48
          refine sv (rv_add rfl rfl h96) (sv (asv (.int .i64 y95) rfl) (W.e ?_))
          obtain rfl := Option.some.inj h48
          exact ⟨_, rfl, ⟨_, _, C, ⟨rfl, rfl, rfl, rfl, rfl, trivial⟩, h0, h1, h93⟩⟩
      · refine cw_f rfl b53 (cw_exit ?_)
        obtain rfl := Option.some.inj h48
        have h97 := congrArg some h47
        obtain rfl := Option.some.inj h97
        exact ⟨_, _, C, ⟨rfl, rfl, rfl, trivial⟩, h1, h43⟩
    · rintro ρ w99 ⟨S98, v100, C, h102, h1, h101⟩
      refine h102.cw fun ρ => ?_
      clear h102
      obtain ⟨o103, h106, h⟩ := bnd_some h
      refine cw_seq' (fun ρ w1 => ∃ S1 v151, Cx No S w S1 w1 ∧ Has ρ [(8, v151)] ∧ Sl (kSl (kI .i64)) S1 w1 v151 o103) ?_ ?_
      · refine cw_seq fun K107 k108 => ?_
        refine cw_region (sv (asv (.int .i64 0) rfl) (W.e (k108 _ _ (cw_block ?_))))
        replace h1 := h1.or (T := Blk v100)
        replace C := C.sealO h101
        replace h101 := h101.sealed
        refine cw_iter h106 (fun s ρ w1 => ∃ S1 v112, Cx No S w S1 w1 ∧ Has ρ [(1, v1), (2, .int .i64 a2), (8, v112), (10, .int .i64 s.2)] ∧ Sl (kSl (kI .i64)) S1 w1 v1 a1 ∧ Sl (kSl (kI .i64)) S1 w1 v112 s.1) ⟨_, _, C, ⟨rfl, rfl, rfl, rfl, trivial⟩, h1, h101⟩ ?_
        rintro ⟨x115, x116⟩ q109 ρ w111 ⟨S110, v112, C, h114, h1, h113⟩ h118 h117
        refine h114.cw fun ρ => ?_
        clear h114
        replace h118 : marigraphref06_Both.b8 a1 a2 x115 x116 = some q109 := h118
        unfold marigraphref06_Both.b8 at h118
        obtain ⟨o119, h122, h118⟩ := bnds_some h118
        refine cw_seq' (fun ρ w1 => ∃ o119n, o119 = (.inl o119n) ∧ ∃ S1, Cx No S w S1 w1 ∧ Has ρ [(1, v1), (2, .int .i64 a2), (8, v112), (10, .int .i64 x116)] ∧ Sl (kSl (kI .i64)) S1 w1 v1 a1 ∧ Sl (kSl (kI .i64)) S1 w1 v112 x115) ?_ ?_
        · obtain ⟨o123, h126, h122⟩ := bnd_some h122
          refine cw_seq' (fun ρ w1 => ∃ S1, Cx No S w S1 w1 ∧ Has ρ [(1, v1), (2, .int .i64 a2), (8, v112), (10, .int .i64 x116), (52, .bool o123)] ∧ Sl (kSl (kI .i64)) S1 w1 v1 a1 ∧ Sl (kSl (kI .i64)) S1 w1 v112 x115) ?_ ?_
          · refine cw_region (sv (mvv (.int .i64 x116) rfl) (sv (mvv v1 rfl) (sv (rv_lenS el22 h1 rfl) (sv (rv_lss rfl rfl) (sv (mvv (.bool (decide (x116 < (a1.length : Int)))) rfl) ?_)))))
            rcases bif_some h126 with ⟨b127, h126⟩ | ⟨b127, h126⟩
            · refine W.v (gy rfl rfl rfl b127) (mvv (.int .i64 a2) rfl) (W.v (gy rfl rfl rfl b127) (rv_eql rfl rfl) (sv (ptk (.bool (a2 == (1 : Int))) rfl b127 rfl) (W.e ?_)))
              obtain rfl := Option.some.inj h126
              exact ⟨_, C, ⟨rfl, rfl, rfl, rfl, rfl, trivial⟩, h1, h113⟩
            · refine W.n (gn rfl rfl rfl b127) (W.n (gn rfl rfl rfl b127) (sv (pfk (.bool false) rfl b127 rfl) (W.e ?_)))
              obtain rfl := Option.some.inj h126
              exact ⟨_, C, ⟨rfl, rfl, rfl, rfl, rfl, trivial⟩, h1, h113⟩
          · rintro ρ w129 ⟨S128, C, h130, h1, h113⟩
            refine h130.cw fun ρ => ?_
            clear h130
            rcases bif_some h122 with ⟨b131, h122⟩ | ⟨b131, h122⟩
            · refine cw_t rfl b131 (cw_skip ?_)
              obtain rfl := Option.some.inj h122
              exact ⟨_, rfl, ⟨_, C, ⟨rfl, rfl, rfl, rfl, trivial⟩, h1, h113⟩⟩
            · refine cw_f rfl b131 (cw_exit ?_)
              obtain rfl := Option.some.inj h122
              replace h118 := h118.2 _ rfl
              obtain rfl := Option.some.inj h118
              have h132 := congrArg some h117
              obtain rfl := Option.some.inj h132
              exact ⟨_, _, C, ⟨rfl, trivial⟩, h113⟩
        · rintro ρ w134 ⟨o119n, rfl, ⟨S133, C, h135, h1, h113⟩⟩
          replace h118 := h118.1 _ rfl
          refine h135.cw fun ρ => ?_
          clear h135
          refine cw_seq fun K136 k137 => ?_
          refine cw_block (cw_region (sv (mvv v112 rfl) (sv (mvv v1 rfl) (sv (mvv (.int .i64 x116) rfl) ?_))))
          obtain ⟨y138, h139, h118⟩ := bnd_some h118
          refine sv (rv_index el22 h1 rfl rfl h139) (sr (rw_loadC el22 h1 h139 rfl _ (Sm.refl _ _)) ?_)
          obtain ⟨y140, h141, h118⟩ := bnd_some h118
          refine sc (dc_call (vs := [v112, .int .i64 y138]) can35 rfl ?_)
          refine (marigraphref06_put_w C.sb h113 h141).mono ?_
          rintro _ w142 ⟨S143, v145, rfl, c144, h146⟩
          refine ⟨_, rfl, ?_⟩
          replace h1 := h1.cx c144
          replace h113 := h113.cx c144
          replace C := C.trans c144
          refine sv (asv v145 rfl) (W.e (k137 _ _ (cw_region (sv (mvv (.int .i64 x116) rfl) ?_))))
          obtain ⟨y147, h148, h118⟩ := pur_some h118
          refine sv (rv_add rfl rfl h148) (sv (asv (.int .i64 y147) rfl) (W.e ?_))
          obtain rfl := Option.some.inj h118
          exact ⟨_, rfl, ⟨_, _, C, ⟨rfl, rfl, rfl, rfl, trivial⟩, h1, h146⟩⟩
      · rintro ρ w150 ⟨S149, v151, C, h153, h152⟩
        refine h153.cw fun ρ => ?_
        clear h153
        refine cw_seq fun K154 k155 => ?_
        refine cw_seq fun K156 k157 => ?_
        refine cw_region (sv (mvv v151 rfl) (sv (rv_lenS el22 h152 rfl) (sv (rv_gtr rfl rfl) (W.e (k157 _ _ ?_)))))
        rcases bif_some h with ⟨b158, h⟩ | ⟨b158, h⟩
        · refine cw_t rfl b158 ?_
          refine cw_seq fun K159 k160 => ?_
          refine cw_region (sv (asv (.slice none 0 0) rfl) (sv (asv (.int .i64 3) rfl) (W.e (k160 _ _ (cw_ret ?_)))))
          obtain rfl := Option.some.inj h
          exact ⟨_, rfl, _, _, rfl, C, (sl_nil _ _ _)⟩
        · refine cw_f rfl b158 (cw_skip (k155 _ _ ?_))
          refine cw_seq fun K161 k162 => ?_
          refine cw_region (sv (mvv v151 rfl) (sv (asv v151 rfl) (sv (asv (.int .i64 0) rfl) (W.e (k162 _ _ (cw_ret ?_))))))
          obtain rfl := Option.some.inj h
          exact ⟨_, rfl, _, _, rfl, C, h152⟩

noncomputable def marigraphref06_With (a0 : List Int) (a1 : Int) : Option ((List Int) × Int) :=
  ((((marigraphref06_Right a0).bind fun y11 => (bif (!y11) then some true else some (decide (a1 < (0 : Int))))).bind fun o7 => (bif o7 then some (.inr (([] : List Int), (1 : Int))) else some (.inl ()))).bind (Sum.elim (fun o3n => ((app_ 8 ([] : List Int) a0).bind fun y33 => ((marigraphref06_put y33 a1).bind fun y41 => (bif (decide ((4096 : Int) < (y41.length : Int))) then some (([] : List Int), (3 : Int)) else some (y41, (0 : Int)))))) (fun q => some q)))
set_option maxRecDepth 100000 in
set_option maxHeartbeats 4000000 in
theorem marigraphref06_With_w {S : Nat → Prop} {w : World} {a0 : List Int} {a1 : Int} {v0 : Value} {r : (List Int) × Int} (hS : Sb S w) (h0 : Sl (kSl (kI .i64)) S w v0 a0) (h : marigraphref06_With a0 a1 = some r) :
    Calls Try.prog 22 (List.toArray [v0, .int .i64 a1]) w fun e w1 => ∃ S1 u0, e = .returned (.tuple (List.toArray [u0, .int .i64 r.2])) ∧ Cx No S w S1 w1 ∧ Sl (kSl (kI .i64)) S1 w1 u0 r.1 := by
  refine enter Try.func22 rfl (by kernel_rfl) rfl ?_
  have C := Cx.refl (F := No) hS
  unfold marigraphref06_With at h
  refine cw_seq fun K1 k2 => ?_
  refine cw_region (sv (asv (.slice none 0 0) rfl) (sv (asv (.int .i64 0) rfl) (W.e (k2 _ _ ?_))))
  obtain ⟨o3, h6, h⟩ := bnds_some h
  refine cw_seq' (fun ρ w1 => ∃ o3n, o3 = (.inl o3n) ∧ ∃ S1, Cx No S w S1 w1 ∧ Has ρ [(0, v0), (1, .int .i64 a1)] ∧ Sl (kSl (kI .i64)) S1 w1 v0 a0) ?_ ?_
  · obtain ⟨o7, h10, h6⟩ := bnd_some h6
    refine cw_seq' (fun ρ w1 => ∃ S1, Cx No S w S1 w1 ∧ Has ρ [(0, v0), (1, .int .i64 a1), (13, .bool o7)] ∧ Sl (kSl (kI .i64)) S1 w1 v0 a0) ?_ ?_
    · refine cw_region (sv (mvv v0 rfl) ?_)
      obtain ⟨y11, h12, h10⟩ := bnd_some h10
      refine sc (dc_call (vs := [v0]) can26 rfl ?_)
      refine (marigraphref06_Right_w C.sb h0 h12).mono ?_
      rintro _ w13 ⟨S14, rfl, c15⟩
      refine ⟨_, rfl, ?_⟩
      replace h0 := h0.cx c15
      replace C := C.trans c15
      refine sv (rv_not rfl) (sv (mvv (.bool (!y11)) rfl) ?_)
      rcases bif_some h10 with ⟨b16, h10⟩ | ⟨b16, h10⟩
      · refine W.n (gn rfl rfl rfl b16) (W.n (gn rfl rfl rfl b16) (sv (ptk (.bool true) rfl b16 rfl) (W.e ?_)))
        obtain rfl := Option.some.inj h10
        exact ⟨_, C, ⟨rfl, rfl, rfl, trivial⟩, h0⟩
      · refine W.v (gy rfl rfl rfl b16) (mvv (.int .i64 a1) rfl) (W.v (gy rfl rfl rfl b16) (rv_lss rfl rfl) (sv (pfk (.bool (decide (a1 < (0 : Int)))) rfl b16 rfl) (W.e ?_)))
        obtain rfl := Option.some.inj h10
        exact ⟨_, C, ⟨rfl, rfl, rfl, trivial⟩, h0⟩
    · rintro ρ w18 ⟨S17, C, h19, h0⟩
      refine h19.cw fun ρ => ?_
      clear h19
      rcases bif_some h6 with ⟨b20, h6⟩ | ⟨b20, h6⟩
      · refine cw_t rfl b20 ?_
        refine cw_seq fun K21 k22 => ?_
        refine cw_region (sv (asv (.slice none 0 0) rfl) (sv (asv (.int .i64 1) rfl) (W.e (k22 _ _ (cw_ret ?_)))))
        obtain rfl := Option.some.inj h6
        replace h := h.2 _ rfl
        obtain rfl := Option.some.inj h
        exact ⟨_, rfl, _, _, rfl, C, (sl_nil _ _ _)⟩
      · refine cw_f rfl b20 (cw_skip ?_)
        obtain rfl := Option.some.inj h6
        exact ⟨_, rfl, ⟨_, C, ⟨rfl, rfl, trivial⟩, h0⟩⟩
  · rintro ρ w24 ⟨o3n, rfl, ⟨S23, C, h25, h0⟩⟩
    replace h := h.1 _ rfl
    refine h25.cw fun ρ => ?_
    clear h25
    refine cw_seq fun K26 k27 => ?_
    refine cw_region ?_
    refine sc (dc_lit (vs := []) (xs := ([] : List Int)) (base := w.heap.size) el22 rfl rfl (.nil) (Nat.le_of_ble_eq_true rfl) C.up.size C.sb fun v28 w29 h30 h31 u32 => ?_)
    replace h0 := h0.nw u32
    replace C := C.new u32
    refine sv (mvv v0 rfl) ?_
    obtain ⟨y33, h34, h⟩ := bnd_some h
    have h40 := h30
    refine sc (dc_append el22 (by decide) h40 (h0.src fun _ h => h) rfl rfl h34 C.up.size C.sb fun v35 w36 h37 u38 h39 => ?_)
    replace C := C.ow h40 u38
    refine sv (mvv (.int .i64 a1) rfl) ?_
    replace C := C.sealO h37
    replace h37 := h37.sealed
    obtain ⟨y41, h42, h⟩ := bnd_some h
    refine sc (dc_call (vs := [v35, .int .i64 a1]) can35 rfl ?_)
    refine (marigraphref06_put_w C.sb h37 h42).mono ?_
    rintro _ w43 ⟨S44, v46, rfl, c45, h47⟩
    refine ⟨_, rfl, ?_⟩
    replace C := C.trans c45
    refine sv (asv v46 rfl) (W.e (k27 _ _ ?_))
    refine cw_seq fun K48 k49 => ?_
    refine cw_seq fun K50 k51 => ?_
    refine cw_region (sv (mvv v46 rfl) (sv (rv_lenS el22 h47 rfl) (sv (rv_gtr rfl rfl) (W.e (k51 _ _ ?_)))))
    rcases bif_some h with ⟨b52, h⟩ | ⟨b52, h⟩
    · refine cw_t rfl b52 ?_
      refine cw_seq fun K53 k54 => ?_
      refine cw_region (sv (asv (.slice none 0 0) rfl) (sv (asv (.int .i64 3) rfl) (W.e (k54 _ _ (cw_ret ?_)))))
      obtain rfl := Option.some.inj h
      exact ⟨_, rfl, _, _, rfl, C, (sl_nil _ _ _)⟩
    · refine cw_f rfl b52 (cw_skip (k49 _ _ ?_))
      refine cw_seq fun K55 k56 => ?_
      refine cw_region (sv (mvv v46 rfl) (sv (asv v46 rfl) (sv (asv (.int .i64 0) rfl) (W.e (k56 _ _ (cw_ret ?_))))))
      obtain rfl := Option.some.inj h
      exact ⟨_, rfl, _, _, rfl, C, h47⟩

noncomputable def marigraphlaw06_PostBoth (a0 : List Int) (a1 : List Int) (a2 : Int) : Option Bool :=
  ((marigraphlaw06_few a0).bind fun y5 => ((marigraphlaw06_few a1).bind fun y12 => ((post_And y5 y12).bind fun y21 => ((post_Or y5 y12).bind fun y30 => ((post_Minus y5 y12).bind fun y39 => ((post_With y5 a2).bind fun y48 => ((marigraphref06_Both y5 y12 (0 : Int)).bind fun y57 => ((marigraphref06_Both y5 y12 (1 : Int)).bind fun y66 => ((marigraphref06_Both y5 y12 (2 : Int)).bind fun y75 => ((marigraphref06_With y5 a2).bind fun y84 => (((marigraphlaw06_shown).bind fun y95 => (bif y95 then ((marigraphref04_Ints y21.1 y57.1).bind fun y101 => (bif y101 then (bif (y21.2 == y57.2) then ((marigraphref04_Ints y30.1 y66.1).bind fun y108 => (bif y108 then (bif (y30.2 == y66.2) then ((marigraphref04_Ints y39.1 y75.1).bind fun y115 => (bif y115 then (bif (y39.2 == y75.2) then ((marigraphref04_Ints y48.1 y84.1).bind fun y122 => (bif y122 then some (y48.2 == y84.2) else some false)) else some false) else some false)) else some false) else some false)) else some false) else some false)) else some false)).bind fun o91 => some o91)))))))))))
set_option maxRecDepth 100000 in
set_option maxHeartbeats 4000000 in
theorem marigraphlaw06_PostBoth_w {S : Nat → Prop} {w : World} {a0 : List Int} {a1 : List Int} {a2 : Int} {v0 v1 : Value} {r : Bool} (hS : Sb S w) (h0 : Sl (kSl (kI .i64)) S w v0 a0) (h1 : Sl (kSl (kI .i64)) S w v1 a1) (h : marigraphlaw06_PostBoth a0 a1 a2 = some r) :
    Calls Try.prog 5 (List.toArray [v0, v1, .int .i64 a2]) w fun e w1 => ∃ S1, e = .returned (.bool r) ∧ Cx No S w S1 w1 := by
  refine enter Try.func5 rfl (by kernel_rfl) rfl ?_
  have C := Cx.refl (F := No) hS
  unfold marigraphlaw06_PostBoth at h
  refine cw_seq fun K1 k2 => ?_
  refine cw_region (sv (asv (.bool false) rfl) (W.e (k2 _ _ ?_)))
  refine cw_seq fun K3 k4 => ?_
  refine cw_region (sv (mvv v0 rfl) ?_)
  obtain ⟨y5, h6, h⟩ := bnd_some h
  refine sc (dc_call (vs := [v0]) can19 rfl ?_)
  refine (marigraphlaw06_few_w C.sb h0 h6).mono ?_
  rintro _ w7 ⟨S8, v10, rfl, c9, h11⟩
  refine ⟨_, rfl, ?_⟩
  replace h1 := h1.cx c9
  replace C := C.trans c9
  refine sv (mvv v1 rfl) ?_
  obtain ⟨y12, h13, h⟩ := bnd_some h
  refine sc (dc_call (vs := [v1]) can19 rfl ?_)
  refine (marigraphlaw06_few_w C.sb h1 h13).mono ?_
  rintro _ w14 ⟨S15, v17, rfl, c16, h18⟩
  refine ⟨_, rfl, ?_⟩
  replace h11 := h11.cx c16
  replace C := C.trans c16
  refine sv (asv v10 rfl) (sv (asv v17 rfl) (W.e (k4 _ _ ?_)))
  refine cw_seq fun K19 k20 => ?_
  refine cw_region (sv (mvv v10 rfl) (sv (mvv v17 rfl) ?_))
  obtain ⟨y21, h22, h⟩ := bnd_some h
  refine sc (dc_call (vs := [v10, v17]) can16 rfl ?_)
  refine (post_And_w C.sb h11 h18 h22).mono ?_
  rintro _ w23 ⟨S24, v26, rfl, c25, h27⟩
  refine ⟨_, rfl, ?_⟩
  replace h11 := h11.cx c25
  replace h18 := h18.cx c25
  replace C := C.trans c25
  refine sv (mvv (.tuple (List.toArray [v26, .int .i64 y21.2])) rfl) (sv (rv_extract rfl rfl) (sv (rv_extract rfl rfl) (sv (asv v26 rfl) (sv (asv (.int .i64 y21.2) rfl) (W.e (k20 _ _ ?_))))))
  refine cw_seq fun K28 k29 => ?_
  refine cw_region (sv (mvv v10 rfl) (sv (mvv v17 rfl) ?_))
  obtain ⟨y30, h31, h⟩ := bnd_some h
  refine sc (dc_call (vs := [v10, v17]) can17 rfl ?_)
  refine (post_Or_w C.sb h11 h18 h31).mono ?_
  rintro _ w32 ⟨S33, v35, rfl, c34, h36⟩
  refine ⟨_, rfl, ?_⟩
  replace h11 := h11.cx c34
  replace h18 := h18.cx c34
  replace h27 := h27.cx c34
  replace C := C.trans c34
  refine sv (mvv (.tuple (List.toArray [v35, .int .i64 y30.2])) rfl) (sv (rv_extract rfl rfl) (sv (rv_extract rfl rfl) (sv (asv v35 rfl) (sv (asv (.int .i64 y30.2) rfl) (W.e (k29 _ _ ?_))))))
  refine cw_seq fun K37 k38 => ?_
  refine cw_region (sv (mvv v10 rfl) (sv (mvv v17 rfl) ?_))
  obtain ⟨y39, h40, h⟩ := bnd_some h
  refine sc (dc_call (vs := [v10, v17]) can18 rfl ?_)
  refine (post_Minus_w C.sb h11 h18 h40).mono ?_
  rintro _ w41 ⟨S42, v44, rfl, c43, h45⟩
  refine ⟨_, rfl, ?_⟩
  replace h11 := h11.cx c43
  replace h18 := h18.cx c43
  replace h27 := h27.cx c43
  replace h36 := h36.cx c43
  replace C := C.trans c43
  refine sv (mvv (.tuple (List.toArray [v44, .int .i64 y39.2])) rfl) (sv (rv_extract rfl rfl) (sv (rv_extract rfl rfl) (sv (asv v44 rfl) (sv (asv (.int .i64 y39.2) rfl) (W.e (k38 _ _ ?_))))))
  refine cw_seq fun K46 k47 => ?_
  refine cw_region (sv (mvv v10 rfl) (sv (mvv (.int .i64 a2) rfl) ?_))
  obtain ⟨y48, h49, h⟩ := bnd_some h
  refine sc (dc_call (vs := [v10, .int .i64 a2]) can20 rfl ?_)
  refine (post_With_w C.sb h11 h49).mono ?_
  rintro _ w50 ⟨S51, v53, rfl, c52, h54⟩
  refine ⟨_, rfl, ?_⟩
  replace h11 := h11.cx c52
  replace h18 := h18.cx c52
  replace h27 := h27.cx c52
  replace h36 := h36.cx c52
  replace h45 := h45.cx c52
  replace C := C.trans c52
  refine sv (mvv (.tuple (List.toArray [v53, .int .i64 y48.2])) rfl) (sv (rv_extract rfl rfl) (sv (rv_extract rfl rfl) (sv (asv v53 rfl) (sv (asv (.int .i64 y48.2) rfl) (W.e (k47 _ _ ?_))))))
  refine cw_seq fun K55 k56 => ?_
  refine cw_region (sv (mvv v10 rfl) (sv (mvv v17 rfl) ?_))
  obtain ⟨y57, h58, h⟩ := bnd_some h
  refine sc (dc_call (vs := [v10, v17, .int .i64 0]) can21 rfl ?_)
  refine (marigraphref06_Both_w C.sb h11 h18 h58).mono ?_
  rintro _ w59 ⟨S60, v62, rfl, c61, h63⟩
  refine ⟨_, rfl, ?_⟩
  replace h11 := h11.cx c61
  replace h18 := h18.cx c61
  replace h27 := h27.cx c61
  replace h36 := h36.cx c61
  replace h45 := h45.cx c61
  replace h54 := h54.cx c61
  replace C := C.trans c61
  refine sv (mvv (.tuple (List.toArray [v62, .int .i64 y57.2])) rfl) (sv (rv_extract rfl rfl) (sv (rv_extract rfl rfl) (sv (asv v62 rfl) (sv (asv (.int .i64 y57.2) rfl) (W.e (k56 _ _ ?_))))))
  refine cw_seq fun K64 k65 => ?_
  refine cw_region (sv (mvv v10 rfl) (sv (mvv v17 rfl) ?_))
  obtain ⟨y66, h67, h⟩ := bnd_some h
  refine sc (dc_call (vs := [v10, v17, .int .i64 1]) can21 rfl ?_)
  refine (marigraphref06_Both_w C.sb h11 h18 h67).mono ?_
  rintro _ w68 ⟨S69, v71, rfl, c70, h72⟩
  refine ⟨_, rfl, ?_⟩
  replace h11 := h11.cx c70
  replace h18 := h18.cx c70
  replace h27 := h27.cx c70
  replace h36 := h36.cx c70
  replace h45 := h45.cx c70
  replace h54 := h54.cx c70
  replace h63 := h63.cx c70
  replace C := C.trans c70
  refine sv (mvv (.tuple (List.toArray [v71, .int .i64 y66.2])) rfl) (sv (rv_extract rfl rfl) (sv (rv_extract rfl rfl) (sv (asv v71 rfl) (sv (asv (.int .i64 y66.2) rfl) (W.e (k65 _ _ ?_))))))
  refine cw_seq fun K73 k74 => ?_
  refine cw_region (sv (mvv v10 rfl) (sv (mvv v17 rfl) ?_))
  obtain ⟨y75, h76, h⟩ := bnd_some h
  refine sc (dc_call (vs := [v10, v17, .int .i64 2]) can21 rfl ?_)
  refine (marigraphref06_Both_w C.sb h11 h18 h76).mono ?_
  rintro _ w77 ⟨S78, v80, rfl, c79, h81⟩
  refine ⟨_, rfl, ?_⟩
  replace h11 := h11.cx c79
  replace h27 := h27.cx c79
  replace h36 := h36.cx c79
  replace h45 := h45.cx c79
  replace h54 := h54.cx c79
  replace h63 := h63.cx c79
  replace h72 := h72.cx c79
  replace C := C.trans c79
  refine sv (mvv (.tuple (List.toArray [v80, .int .i64 y75.2])) rfl) (sv (rv_extract rfl rfl) (sv (rv_extract rfl rfl) (sv (asv v80 rfl) (sv (asv (.int .i64 y75.2) rfl) (W.e (k74 _ _ ?_))))))
  refine cw_seq fun K82 k83 => ?_
  refine cw_region (sv (mvv v10 rfl) (sv (mvv (.int .i64 a2) rfl) ?_))
  obtain ⟨y84, h85, h⟩ := bnd_some h
  refine sc (dc_call (vs := [v10, .int .i64 a2]) can22 rfl ?_)
  refine (marigraphref06_With_w C.sb h11 h85).mono ?_
  rintro _ w86 ⟨S87, v89, rfl, c88, h90⟩
  refine ⟨_, rfl, ?_⟩
  replace h27 := h27.cx c88
  replace h36 := h36.cx c88
  replace h45 := h45.cx c88
  replace h54 := h54.cx c88
  replace h63 := h63.cx c88
  replace h72 := h72.cx c88
  replace h81 := h81.cx c88
  replace C := C.trans c88
  refine sv (mvv (.tuple (List.toArray [v89, .int .i64 y84.2])) rfl) (sv (rv_extract rfl rfl) (sv (rv_extract rfl rfl) (sv (asv v89 rfl) (sv (asv (.int .i64 y84.2) rfl) (W.e (k83 _ _ ?_))))))
  obtain ⟨o91, h94, h⟩ := bnd_some h
  refine cw_seq' (fun ρ w1 => ∃ S1, Cx No S w S1 w1 ∧ Has ρ [(6, .bool o91)]) ?_ ?_
  · refine cw_region ?_
    obtain ⟨y95, h96, h94⟩ := bnd_some h94
    refine sc (dc_call (vs := []) can11 rfl ?_)
    refine (marigraphlaw06_shown_w C.sb  h96).mono ?_
    rintro _ w97 ⟨S98, rfl, c99⟩
    refine ⟨_, rfl, ?_⟩
    replace h27 := h27.cx c99
    replace h36 := h36.cx c99
    replace h45 := h45.cx c99
    replace h54 := h54.cx c99
    replace h63 := h63.cx c99
    replace h72 := h72.cx c99
    replace h81 := h81.cx c99
    replace h90 := h90.cx c99
    replace C := C.trans c99
    refine sv (mvv (.bool y95) rfl) ?_
    rcases bif_some h94 with ⟨b100, h94⟩ | ⟨b100, h94⟩
    · refine W.v (gy rfl rfl rfl b100) (mvv v26 rfl) (W.v (gy rfl rfl rfl b100) (mvv v62 rfl) ?_)
      obtain ⟨y101, h102, h94⟩ := bnd_some h94
      refine W.c (gy rfl rfl rfl b100) (dc_call (vs := [v26, v62]) can13 rfl ?_)
      refine (marigraphref04_Ints_w C.sb h27 h63 h102).mono ?_
      rintro _ w103 ⟨S104, rfl, c105⟩
      refine ⟨_, rfl, ?_⟩
      replace h36 := h36.cx c105
      replace h45 := h45.cx c105
      replace h54 := h54.cx c105
      replace h72 := h72.cx c105
      replace h81 := h81.cx c105
      replace h90 := h90.cx c105
      replace C := C.trans c105
      refine sv (ptk (.bool y101) rfl b100 rfl) (sv (mvv (.bool y101) rfl) ?_)
      rcases bif_some h94 with ⟨b106, h94⟩ | ⟨b106, h94⟩
      · refine W.v (gy rfl rfl rfl b106) (mvv (.int .i64 y21.2) rfl) (W.v (gy rfl rfl rfl b106) (mvv (.int .i64 y57.2) rfl) (W.v (gy rfl rfl rfl b106) (rv_eql rfl rfl) (sv (ptk (.bool (y21.2 == y57.2)) rfl b106 rfl) (sv (mvv (.bool (y21.2 == y57.2)) rfl) ?_))))
        rcases bif_some h94 with ⟨b107, h94⟩ | ⟨b107, h94⟩
        · refine W.v (gy rfl rfl rfl b107) (mvv v35 rfl) (W.v (gy rfl rfl rfl b107) (mvv v71 rfl) ?_)
          obtain ⟨y108, h109, h94⟩ := bnd_some h94
          refine W.c (gy rfl rfl rfl b107) (dc_call (vs := [v35, v71]) can13 rfl ?_)
          refine (marigraphref04_Ints_w C.sb h36 h72 h109).mono ?_
          rintro _ w110 ⟨S111, rfl, c112⟩
          refine ⟨_, rfl, ?_⟩
          replace h45 := h45.cx c112
          replace h54 := h54.cx c112
          replace h81 := h81.cx c112
          replace h90 := h90.cx c112
          replace C := C.trans c112
          refine sv (ptk (.bool y108) rfl b107 rfl) (sv (mvv (.bool y108) rfl) ?_)
          rcases bif_some h94 with ⟨b113, h94⟩ | ⟨b113, h94⟩
          · refine W.v (gy rfl rfl rfl b113) (mvv (.int .i64 y30.2) rfl) (W.v (gy rfl rfl rfl b113) (mvv (.int .i64 y66.2) rfl) (W.v (gy rfl rfl rfl b113) (rv_eql rfl rfl) (sv (ptk (.bool (y30.2 == y66.2)) rfl b113 rfl) (sv (mvv (.bool (y30.2 == y66.2)) rfl) ?_))))
            rcases bif_some h94 with ⟨b114, h94⟩ | ⟨b114, h94⟩
            · refine W.v (gy rfl rfl rfl b114) (mvv v44 rfl) (W.v (gy rfl rfl rfl b114) (mvv v80 rfl) ?_)
              obtain ⟨y115, h116, h94⟩ := bnd_some h94
              refine W.c (gy rfl rfl rfl b114) (dc_call (vs := [v44, v80]) can13 rfl ?_)
              refine (marigraphref04_Ints_w C.sb h45 h81 h116).mono ?_
              rintro _ w117 ⟨S118, rfl, c119⟩
              refine ⟨_, rfl, ?_⟩
              replace h54 := h54.cx c119
              replace h90 := h90.cx c119
              replace C := C.trans c119
              refine sv (ptk (.bool y115) rfl b114 rfl) (sv (mvv (.bool y115) rfl) ?_)
              rcases bif_some h94 with ⟨b120, h94⟩ | ⟨b120, h94⟩
              · refine W.v (gy rfl rfl rfl b120) (mvv (.int .i64 y39.2) rfl) (W.v (gy rfl rfl rfl b120) (mvv (.int .i64 y75.2) rfl) (W.v (gy rfl rfl rfl b120) (rv_eql rfl rfl) (sv (ptk (.bool (y39.2 == y75.2)) rfl b120 rfl) (sv (mvv (.bool (y39.2 == y75.2)) rfl) ?_))))
                rcases bif_some h94 with ⟨b121, h94⟩ | ⟨b121, h94⟩
                · refine W.v (gy rfl rfl rfl b121) (mvv v53 rfl) (W.v (gy rfl rfl rfl b121) (mvv v89 rfl) ?_)
                  obtain ⟨y122, h123, h94⟩ := bnd_some h94
                  refine W.c (gy rfl rfl rfl b121) (dc_call (vs := [v53, v89]) can13 rfl ?_)
                  refine (marigraphref04_Ints_w C.sb h54 h90 h123).mono ?_
                  rintro _ w124 ⟨S125, rfl, c126⟩
                  refine ⟨_, rfl, ?_⟩
                  replace C := C.trans c126
                  refine sv (ptk (.bool y122) rfl b121 rfl) (sv (mvv (.bool y122) rfl) ?_)
                  rcases bif_some h94 with ⟨b127, h94⟩ | ⟨b127, h94⟩
                  · refine W.v (gy rfl rfl rfl b127) (mvv (.int .i64 y48.2) rfl) (W.v (gy rfl rfl rfl b127) (mvv (.int .i64 y84.2) rfl) (W.v (gy rfl rfl rfl b127) (rv_eql rfl rfl) (sv (ptk (.bool (y48.2 == y84.2)) rfl b127 rfl) (sv (asv (.bool (y48.2 == y84.2)) rfl) (W.e ?_)))))
                    obtain rfl := Option.some.inj h94
                    exact ⟨_, C, ⟨rfl, trivial⟩⟩
                  · refine W.n (gn rfl rfl rfl b127) (W.n (gn rfl rfl rfl b127) (W.n (gn rfl rfl rfl b127) (sv (pfk (.bool false) rfl b127 rfl) (sv (asv (.bool false) rfl) (W.e ?_)))))
                    obtain rfl := Option.some.inj h94
                    exact ⟨_, C, ⟨rfl, trivial⟩⟩
                · refine W.n (gn rfl rfl rfl b121) (W.n (gn rfl rfl rfl b121) (W.n (gn rfl rfl rfl b121) (sv (pfk (.bool false) rfl b121 rfl) (sv (mvv (.bool false) rfl) (W.n (gn rfl rfl rfl rfl) (W.n (gn rfl rfl rfl rfl) (W.n (gn rfl rfl rfl rfl) (sv (pfk (.bool false) rfl rfl rfl) (sv (asv (.bool false) rfl) (W.e ?_))))))))))
                  obtain rfl := Option.some.inj h94
                  exact ⟨_, C, ⟨rfl, trivial⟩⟩
              · refine W.n (gn rfl rfl rfl b120) (W.n (gn rfl rfl rfl b120) (W.n (gn rfl rfl rfl b120) (sv (pfk (.bool false) rfl b120 rfl) (sv (mvv (.bool false) rfl) (W.n (gn rfl rfl rfl rfl) (W.n (gn rfl rfl rfl rfl) (W.n (gn rfl rfl rfl rfl) (sv (pfk (.bool false) rfl rfl rfl) (sv (mvv (.bool false) rfl) (W.n (gn rfl rfl rfl rfl) (W.n (gn rfl rfl rfl rfl) ?_)))))))))))
                refine W.n (gn rfl rfl rfl rfl) (sv (pfk (.bool false) rfl rfl rfl) (sv (asv (.bool false) rfl) (W.e ?_)))
                obtain rfl := Option.some.inj h94
                exact ⟨_, C, ⟨rfl, trivial⟩⟩
            · refine W.n (gn rfl rfl rfl b114) (W.n (gn rfl rfl rfl b114) (W.n (gn rfl rfl rfl b114) (sv (pfk (.bool false) rfl b114 rfl) (sv (mvv (.bool false) rfl) (W.n (gn rfl rfl rfl rfl) (W.n (gn rfl rfl rfl rfl) (W.n (gn rfl rfl rfl rfl) (sv (pfk (.bool false) rfl rfl rfl) (sv (mvv (.bool false) rfl) (W.n (gn rfl rfl rfl rfl) (W.n (gn rfl rfl rfl rfl) ?_)))))))))))
              refine W.n (gn rfl rfl rfl rfl) (sv (pfk (.bool false) rfl rfl rfl) (sv (mvv (.bool false) rfl) (W.n (gn rfl rfl rfl rfl) (W.n (gn rfl rfl rfl rfl) (W.n (gn rfl rfl rfl rfl) (sv (pfk (.bool false) rfl rfl rfl) (sv (asv (.bool false) rfl) (W.e ?_))))))))
              obtain rfl := Option.some.inj h94
              exact ⟨_, C, ⟨rfl, trivial⟩⟩
          · refine W.n (gn rfl rfl rfl b113) (W.n (gn rfl rfl rfl b113) (W.n (gn rfl rfl rfl b113) (sv (pfk (.bool false) rfl b113 rfl) (sv (mvv (.bool false) rfl) (W.n (gn rfl rfl rfl rfl) (W.n (gn rfl rfl rfl rfl) (W.n (gn rfl rfl rfl rfl) (sv (pfk (.bool false) rfl rfl rfl) (sv (mvv (.bool false) rfl) (W.n (gn rfl rfl rfl rfl) (W.n (gn rfl rfl rfl rfl) ?_)))))))))))
            refine W.n (gn rfl rfl rfl rfl) (sv (pfk (.bool false) rfl rfl rfl) (sv (mvv (.bool false) rfl) (W.n (gn rfl rfl rfl rfl) (W.n (gn rfl rfl rfl rfl) (W.n (gn rfl rfl rfl rfl) (sv (pfk (.bool false) rfl rfl rfl) (sv (mvv (.bool false) rfl) (W.n (gn rfl rfl rfl rfl) (W.n (gn rfl rfl rfl rfl) (W.n (gn rfl rfl rfl rfl) (sv (pfk (.bool false) rfl rfl rfl) ?_)))))))))))
            refine sv (asv (.bool false) rfl) (W.e ?_)
            obtain rfl := Option.some.inj h94
            exact ⟨_, C, ⟨rfl, trivial⟩⟩
        · refine W.n (gn rfl rfl rfl b107) (W.n (gn rfl rfl rfl b107) (W.n (gn rfl rfl rfl b107) (sv (pfk (.bool false) rfl b107 rfl) (sv (mvv (.bool false) rfl) (W.n (gn rfl rfl rfl rfl) (W.n (gn rfl rfl rfl rfl) (W.n (gn rfl rfl rfl rfl) (sv (pfk (.bool false) rfl rfl rfl) (sv (mvv (.bool false) rfl) (W.n (gn rfl rfl rfl rfl) (W.n (gn rfl rfl rfl rfl) ?_)))))))))))
          refine W.n (gn rfl rfl rfl rfl) (sv (pfk (.bool false) rfl rfl rfl) (sv (mvv (.bool false) rfl) (W.n (gn rfl rfl rfl rfl) (W.n (gn rfl rfl rfl rfl) (W.n (gn rfl rfl rfl rfl) (sv (pfk (.bool false) rfl rfl rfl) (sv (mvv (.bool false) rfl) (W.n (gn rfl rfl rfl rfl) (W.n (gn rfl rfl rfl rfl) (W.n (gn rfl rfl rfl rfl) (sv (pfk (.bool false) rfl rfl rfl) ?_)))))))))))
          refine sv (mvv (.bool false) rfl) (W.n (gn rfl rfl rfl rfl) (W.n (gn rfl rfl rfl rfl) (W.n (gn rfl rfl rfl rfl) (sv (pfk (.bool false) rfl rfl rfl) (sv (asv (.bool false) rfl) (W.e ?_))))))
          obtain rfl := Option.some.inj h94
          exact ⟨_, C, ⟨rfl, trivial⟩⟩
      · refine W.n (gn rfl rfl rfl b106) (W.n (gn rfl rfl rfl b106) (W.n (gn rfl rfl rfl b106) (sv (pfk (.bool false) rfl b106 rfl) (sv (mvv (.bool false) rfl) (W.n (gn rfl rfl rfl rfl) (W.n (gn rfl rfl rfl rfl) (W.n (gn rfl rfl rfl rfl) (sv (pfk (.bool false) rfl rfl rfl) (sv (mvv (.bool false) rfl) (W.n (gn rfl rfl rfl rfl) (W.n (gn rfl rfl rfl rfl) ?_)))))))))))
        refine W.n (gn rfl rfl rfl rfl) (sv (pfk (.bool false) rfl rfl rfl) (sv (mvv (.bool false) rfl) (W.n (gn rfl rfl rfl rfl) (W.n (gn rfl rfl rfl rfl) (W.n (gn rfl rfl rfl rfl) (sv (pfk (.bool false) rfl rfl rfl) (sv (mvv (.bool false) rfl) (W.n (gn rfl rfl rfl rfl) (W.n (gn rfl rfl rfl rfl) (W.n (gn rfl rfl rfl rfl) (sv (pfk (.bool false) rfl rfl rfl) ?_)))))))))))
        refine sv (mvv (.bool false) rfl) (W.n (gn rfl rfl rfl rfl) (W.n (gn rfl rfl rfl rfl) (W.n (gn rfl rfl rfl rfl) (sv (pfk (.bool false) rfl rfl rfl) (sv (mvv (.bool false) rfl) (W.n (gn rfl rfl rfl rfl) (W.n (gn rfl rfl rfl rfl) (W.n (gn rfl rfl rfl rfl) (sv (pfk (.bool false) rfl rfl rfl) (sv (asv (.bool false) rfl) (W.e ?_)))))))))))
        obtain rfl := Option.some.inj h94
        exact ⟨_, C, ⟨rfl, trivial⟩⟩
    · refine W.n (gn rfl rfl rfl b100) (W.n (gn rfl rfl rfl b100) (W.n (gn rfl rfl rfl b100) (sv (pfk (.bool false) rfl b100 rfl) (sv (mvv (.bool false) rfl) (W.n (gn rfl rfl rfl rfl) (W.n (gn rfl rfl rfl rfl) (W.n (gn rfl rfl rfl rfl) (sv (pfk (.bool false) rfl rfl rfl) (sv (mvv (.bool false) rfl) (W.n (gn rfl rfl rfl rfl) (W.n (gn rfl rfl rfl rfl) ?_)))))))))))
      refine W.n (gn rfl rfl rfl rfl) (sv (pfk (.bool false) rfl rfl rfl) (sv (mvv (.bool false) rfl) (W.n (gn rfl rfl rfl rfl) (W.n (gn rfl rfl rfl rfl) (W.n (gn rfl rfl rfl rfl) (sv (pfk (.bool false) rfl rfl rfl) (sv (mvv (.bool false) rfl) (W.n (gn rfl rfl rfl rfl) (W.n (gn rfl rfl rfl rfl) (W.n (gn rfl rfl rfl rfl) (sv (pfk (.bool false) rfl rfl rfl) ?_)))))))))))
      refine sv (mvv (.bool false) rfl) (W.n (gn rfl rfl rfl rfl) (W.n (gn rfl rfl rfl rfl) (W.n (gn rfl rfl rfl rfl) (sv (pfk (.bool false) rfl rfl rfl) (sv (mvv (.bool false) rfl) (W.n (gn rfl rfl rfl rfl) (W.n (gn rfl rfl rfl rfl) (W.n (gn rfl rfl rfl rfl) (sv (pfk (.bool false) rfl rfl rfl) (sv (mvv (.bool false) rfl) (W.n (gn rfl rfl rfl rfl) ?_)))))))))))
      refine W.n (gn rfl rfl rfl rfl) (W.n (gn rfl rfl rfl rfl) (sv (pfk (.bool false) rfl rfl rfl) (sv (asv (.bool false) rfl) (W.e ?_))))
      obtain rfl := Option.some.inj h94
      exact ⟨_, C, ⟨rfl, trivial⟩⟩
  · rintro ρ w129 ⟨S128, C, h130⟩
    refine h130.cw fun ρ => ?_
    clear h130
    refine cw_ret ?_
    obtain rfl := Option.some.inj h
    exact ⟨_, rfl, _, rfl, C⟩

noncomputable def post_All.b2 (a0 : List (List Int)) (x29 : List Int) (x30 : Int) : Option (((List Int) × Int) ⊕ (((List Int)) ⊕ ((List Int) × Int))) :=
  (bif (decide (x30 < (a0.length : Int))) then ((at_ a0 x30).bind fun y42 => ((post_And x29 y42).bind fun y49 => (bif (y49.2 != (0 : Int)) then some (.inr (.inr (([] : List Int), y49.2))) else (pur (IntKind.i64.wrap (x30 + (1 : Int))) fun y64 => some (.inl (y49.1, y64)))))) else some (.inr (.inl x29)))
noncomputable def post_All (a0 : List (List Int)) : Option ((List Int) × Int) :=
  (bif ((a0.length : Int) == (0 : Int)) then some (([] : List Int), (1 : Int)) else ((at_ a0 (0 : Int)).bind fun y12 => ((iter (fun s : (List Int) × Int => post_All.b2 a0 s.1 s.2) (y12, (0 : Int))).bind (Sum.elim (fun o17n => some (o17n, (0 : Int))) (fun q => some q)))))
set_option maxRecDepth 100000 in
set_option maxHeartbeats 4000000 in
theorem post_All_w {S : Nat → Prop} {w : World} {a0 : List (List Int)} {v0 : Value} {r : (List Int) × Int} (hS : Sb S w) (h0 : Sl (kSl (kSl (kI .i64))) S w v0 a0) (h : post_All a0 = some r) :
    Calls Try.prog 23 (List.toArray [v0]) w fun e w1 => ∃ S1 u0, e = .returned (.tuple (List.toArray [u0, .int .i64 r.2])) ∧ Cx No S w S1 w1 ∧ Sl (kSl (kI .i64)) S1 w1 u0 r.1 := by
  refine enter Try.func23 rfl (by kernel_rfl) rfl ?_
  have C := Cx.refl (F := No) hS
  unfold post_All at h
  refine cw_seq fun K1 k2 => ?_
  refine cw_region (sv (asv (.slice none 0 0) rfl) (sv (asv (.int .i64 0) rfl) (W.e (k2 _ _ ?_))))
  refine cw_seq fun K3 k4 => ?_
  refine cw_seq fun K5 k6 => ?_
  refine cw_region (sv (mvv v0 rfl) (sv (rv_lenS el36 h0 rfl) (sv (rv_eql rfl rfl) (W.e (k6 _ _ ?_)))))
  rcases bif_some h with ⟨b7, h⟩ | ⟨b7, h⟩
  · refine cw_t rfl b7 ?_
    refine cw_seq fun K8 k9 => ?_
    refine cw_region (sv (asv (.slice none 0 0) rfl) (sv (asv (.int .i64 1) rfl) (W.e (k9 _ _ (cw_ret ?_)))))
    obtain rfl := Option.some.inj h
    exact ⟨_, rfl, _, _, rfl, C, (sl_nil _ _ _)⟩
  · refine cw_f rfl b7 (cw_skip (k4 _ _ ?_))
    refine cw_seq fun K10 k11 => ?_
    refine cw_region (sv (mvv v0 rfl) ?_)
    obtain ⟨y12, h13, h⟩ := bnd_some h
    refine sv (rv_index el36 h0 rfl rfl h13) ?_
    obtain ⟨v14, h15, h16⟩ := rw_loadA (P := Try.prog) el36 h0 h13
    refine sr (h16 _ (Sm.refl _ _) rfl) (sv (asv v14 rfl) (W.e (k11 _ _ ?_)))
    obtain ⟨o17, h20, h⟩ := bnds_some h
    refine cw_seq' (fun ρ w1 => ∃ o17n, o17 = (.inl o17n) ∧ ∃ S1 v69, Cx No S w S1 w1 ∧ Has ρ [(4, v69)] ∧ Sl (kSl (kI .i64)) S1 w1 v69 o17n) ?_ ?_
    · refine cw_seq fun K21 k22 => ?_
      refine cw_region (sv (mvv v0 rfl) (sv (rv_lenS el36 h0 rfl) (sv (mvv (.int .i64 0) rfl) (W.e (k22 _ _ (cw_block ?_))))))
      refine cw_iter h20 (fun s ρ w1 => ∃ S1 v26, Cx No S w S1 w1 ∧ Has ρ [(4, v26), (15, v0), (16, .int .i64 (a0.length : Int)), (17, .int .i64 s.2)] ∧ Sl (kSl (kI .i64)) S1 w1 v26 s.1 ∧ Sl (kSl (kSl (kI .i64))) S1 w1 v0 a0) ⟨_, _, C, ⟨rfl, rfl, rfl, rfl, trivial⟩, h15, h0⟩ ?_
      rintro ⟨x29, x30⟩ q23 ρ w25 ⟨S24, v26, C, h28, h27, h0⟩ h32 h31
      refine h28.cw fun ρ => ?_
      clear h28
      replace h32 : post_All.b2 a0 x29 x30 = some q23 := h32
      unfold post_All.b2 at h32
      refine cw_seq fun K33 k34 => ?_
      refine cw_region (sv (rv_lss rfl rfl) (W.e (k34 _ _ ?_)))
      refine cw_seq fun K35 k36 => ?_
      rcases bif_some h32 with ⟨b37, h32⟩ | ⟨b37, h32⟩
      · refine cw_t rfl b37 (cw_skip (k36 _ _ ?_))
        refine cw_seq fun K38 k39 => ?_
        refine cw_block ?_
        refine cw_seq fun K40 k41 => ?_
        refine cw_region ?_
        obtain ⟨y42, h43, h32⟩ := bnd_some h32
        refine sv (rv_index el36 h0 rfl rfl h43) ?_
        obtain ⟨v44, h45, h46⟩ := rw_loadA (P := Try.prog) el36 h0 h43
        refine sr (h46 _ (Sm.refl _ _) rfl) (sv (asv v44 rfl) (W.e (k41 _ _ ?_)))
        refine cw_seq fun K47 k48 => ?_
        refine cw_region (sv (mvv v26 rfl) (sv (mvv v44 rfl) ?_))
        obtain ⟨y49, h50, h32⟩ := bnd_some h32
        refine sc (dc_call (vs := [v26, v44]) can16 rfl ?_)
        refine (post_And_w C.sb h27 h45 h50).mono ?_
        rintro _ w51 ⟨S52, v54, rfl, c53, h55⟩
        refine ⟨_, rfl, ?_⟩
        replace h0 := h0.cx c53
        replace C := C.trans c53
        refine sv (mvv (.tuple (List.toArray [v54, .int .i64 y49.2])) rfl) (sv (rv_extract rfl rfl) (sv (rv_extract rfl rfl) (sv (asv v54 rfl) (sv (asv (.int .i64 y49.2) rfl) (W.e (k48 _ _ ?_))))))
        refine cw_seq fun K56 k57 => ?_
        refine cw_seq fun K58 k59 => ?_
        refine cw_region (sv (mvv (.int .i64 y49.2) rfl) (sv (rv_neq rfl rfl) (W.e (k59 _ _ ?_))))
        rcases bif_some h32 with ⟨b60, h32⟩ | ⟨b60, h32⟩
        · refine cw_t rfl b60 ?_
          refine cw_seq fun K61 k62 => ?_
          refine cw_region (sv (mvv (.int .i64 y49.2) rfl) (sv (asv (.slice none 0 0) rfl) (sv (asv (.int .i64 y49.2) rfl) (W.e (k62 _ _ (cw_ret ?_))))))
          obtain rfl := Option.some.inj h32
          have h63 := congrArg some h31
          obtain rfl := Option.some.inj h63
          replace h := h.2 _ rfl
          obtain rfl := Option.some.inj h
          exact ⟨_, rfl, _, _, rfl, C, (sl_nil _ _ _)⟩
        · refine cw_f rfl b60 (cw_skip (k57 _ _ (cw_region (sv (mvv v54 rfl) (sv (asv v54 rfl) (W.e (k39 _ _ (cw_region ?_))))))))
          obtain ⟨y64, h65, h32⟩ := pur_some h32
          refine sv (rv_add rfl rfl h65) (sv (mvv (.int .i64 y64) rfl) (W.e ?_))
          obtain rfl := Option.some.inj h32
          exact ⟨_, rfl, ⟨_, _, C, ⟨rfl, rfl, rfl, rfl, trivial⟩, h55, h0⟩⟩
      · refine cw_f rfl b37 (cw_exit ?_)
        obtain rfl := Option.some.inj h32
        have h66 := congrArg some h31
        obtain rfl := Option.some.inj h66
        exact ⟨_, rfl, ⟨_, _, C, ⟨rfl, trivial⟩, h27⟩⟩
    · rintro ρ w68 ⟨o17n, rfl, ⟨S67, v69, C, h71, h70⟩⟩
      replace h := h.1 _ rfl
      refine h71.cw fun ρ => ?_
      clear h71
      refine cw_seq fun K72 k73 => ?_
      refine cw_region (sv (mvv v69 rfl) (sv (asv v69 rfl) (sv (asv (.int .i64 0) rfl) (W.e (k73 _ _ (cw_ret ?_))))))
      obtain rfl := Option.some.inj h
      exact ⟨_, rfl, _, _, rfl, C, h70⟩

noncomputable def marigraphref06_All.b2 (a0 : List (List Int)) (x29 : List Int) (x30 : Int) : Option (((List Int) × Int) ⊕ (((List Int)) ⊕ ((List Int) × Int))) :=
  (bif (decide (x30 < (a0.length : Int))) then ((at_ a0 x30).bind fun y42 => ((marigraphref06_Both x29 y42 (0 : Int)).bind fun y47 => (bif (y47.2 != (0 : Int)) then some (.inr (.inr (([] : List Int), y47.2))) else (pur (IntKind.i64.wrap (x30 + (1 : Int))) fun y62 => some (.inl (y47.1, y62)))))) else some (.inr (.inl x29)))
noncomputable def marigraphref06_All (a0 : List (List Int)) : Option ((List Int) × Int) :=
  (bif ((a0.length : Int) == (0 : Int)) then some (([] : List Int), (1 : Int)) else ((at_ a0 (0 : Int)).bind fun y12 => ((iter (fun s : (List Int) × Int => marigraphref06_All.b2 a0 s.1 s.2) (y12, (0 : Int))).bind (Sum.elim (fun o17n => some (o17n, (0 : Int))) (fun q => some q)))))
set_option maxRecDepth 100000 in
set_option maxHeartbeats 4000000 in
theorem marigraphref06_All_w {S : Nat → Prop} {w : World} {a0 : List (List Int)} {v0 : Value} {r : (List Int) × Int} (hS : Sb S w) (h0 : Sl (kSl (kSl (kI .i64))) S w v0 a0) (h : marigraphref06_All a0 = some r) :
    Calls Try.prog 24 (List.toArray [v0]) w fun e w1 => ∃ S1 u0, e = .returned (.tuple (List.toArray [u0, .int .i64 r.2])) ∧ Cx No S w S1 w1 ∧ Sl (kSl (kI .i64)) S1 w1 u0 r.1 := by
  refine enter Try.func24 rfl (by kernel_rfl) rfl ?_
  have C := Cx.refl (F := No) hS
  unfold marigraphref06_All at h
  refine cw_seq fun K1 k2 => ?_
  refine cw_region (sv (asv (.slice none 0 0) rfl) (sv (asv (.int .i64 0) rfl) (W.e (k2 _ _ ?_))))
  refine cw_seq fun K3 k4 => ?_
  refine cw_seq fun K5 k6 => ?_
  refine cw_region (sv (mvv v0 rfl) (sv (rv_lenS el36 h0 rfl) (sv (rv_eql rfl rfl) (W.e (k6 _ _ ?_)))))
  rcases bif_some h with ⟨b7, h⟩ | ⟨b7, h⟩
  · refine cw_t rfl b7 ?_
    refine cw_seq fun K8 k9 => ?_
    refine cw_region (sv (asv (.slice none 0 0) rfl) (sv (asv (.int .i64 1) rfl) (W.e (k9 _ _ (cw_ret ?_)))))
    obtain rfl := Option.some.inj h
    exact ⟨_, rfl, _, _, rfl, C, (sl_nil _ _ _)⟩
  · refine cw_f rfl b7 (cw_skip (k4 _ _ ?_))
    refine cw_seq fun K10 k11 => ?_
    refine cw_region (sv (mvv v0 rfl) ?_)
    obtain ⟨y12, h13, h⟩ := bnd_some h
    refine sv (rv_index el36 h0 rfl rfl h13) ?_
    obtain ⟨v14, h15, h16⟩ := rw_loadA (P := Try.prog) el36 h0 h13
    refine sr (h16 _ (Sm.refl _ _) rfl) (sv (asv v14 rfl) (W.e (k11 _ _ ?_)))
    obtain ⟨o17, h20, h⟩ := bnds_some h
    refine cw_seq' (fun ρ w1 => ∃ o17n, o17 = (.inl o17n) ∧ ∃ S1 v67, Cx No S w S1 w1 ∧ Has ρ [(4, v67)] ∧ Sl (kSl (kI .i64)) S1 w1 v67 o17n) ?_ ?_
    · refine cw_seq fun K21 k22 => ?_
      refine cw_region (sv (asv (.int .i64 0) rfl) (W.e (k22 _ _ (cw_block ?_))))
      refine cw_iter h20 (fun s ρ w1 => ∃ S1 v26, Cx No S w S1 w1 ∧ Has ρ [(0, v0), (4, v26), (5, .int .i64 s.2)] ∧ Sl (kSl (kSl (kI .i64))) S1 w1 v0 a0 ∧ Sl (kSl (kI .i64)) S1 w1 v26 s.1) ⟨_, _, C, ⟨rfl, rfl, rfl, trivial⟩, h0, h15⟩ ?_
      rintro ⟨x29, x30⟩ q23 ρ w25 ⟨S24, v26, C, h28, h0, h27⟩ h32 h31
      refine h28.cw fun ρ => ?_
      clear h28
      replace h32 : marigraphref06_All.b2 a0 x29 x30 = some q23 := h32
      unfold marigraphref06_All.b2 at h32
      refine cw_seq fun K33 k34 => ?_
      refine cw_seq fun K35 k36 => ?_
      refine cw_region (sv (mvv (.int .i64 x30) rfl) (sv (mvv v0 rfl) (sv (rv_lenS el36 h0 rfl) (sv (rv_lss rfl rfl) (W.e (k36 _ _ ?_))))))
      rcases bif_some h32 with ⟨b37, h32⟩ | ⟨b37, h32⟩
      · refine cw_t rfl b37 (cw_skip (k34 _ _ ?_))
        refine cw_seq fun K38 k39 => ?_
        refine cw_block ?_
        refine cw_seq fun K40 k41 => ?_
        refine cw_region (sv (mvv v26 rfl) (sv (mvv v0 rfl) (sv (mvv (.int .i64 x30) rfl) ?_)))
        obtain ⟨y42, h43, h32⟩ := bnd_some h32
        refine sv (rv_index el36 h0 rfl rfl h43) ?_
        obtain ⟨v44, h45, h46⟩ := rw_loadA (P := Try.prog) el36 h0 h43
        refine sr (h46 _ (Sm.refl _ _) rfl) ?_
        obtain ⟨y47, h48, h32⟩ := bnd_some h32
        refine sc (dc_call (vs := [v26, v44, .int .i64 0]) can21 rfl ?_)
        refine (marigraphref06_Both_w C.sb h27 h45 h48).mono ?_
        rintro _ w49 ⟨S50, v52, rfl, c51, h53⟩
        refine ⟨_, rfl, ?_⟩
        replace h0 := h0.cx c51
        replace C := C.trans c51
        refine sv (mvv (.tuple (List.toArray [v52, .int .i64 y47.2])) rfl) (sv (rv_extract rfl rfl) (sv (rv_extract rfl rfl) (sv (asv v52 rfl) (sv (asv (.int .i64 y47.2) rfl) (W.e (k41 _ _ ?_))))))
        refine cw_seq fun K54 k55 => ?_
        refine cw_seq fun K56 k57 => ?_
        refine cw_region (sv (mvv (.int .i64 y47.2) rfl) (sv (rv_neq rfl rfl) (W.e (k57 _ _ ?_))))
        rcases bif_some h32 with ⟨b58, h32⟩ | ⟨b58, h32⟩
        · refine cw_t rfl b58 ?_
          refine cw_seq fun K59 k60 => ?_
          refine cw_region (sv (mvv (.int .i64 y47.2) rfl) (sv (asv (.slice none 0 0) rfl) (sv (asv (.int .i64 y47.2) rfl) (W.e (k60 _ _ (cw_ret ?_))))))
          obtain rfl := Option.some.inj h32
          have h61 := congrArg some h31
          obtain rfl := Option.some.inj h61
          replace h := h.2 _ rfl
          obtain rfl := Option.some.inj h
          exact ⟨_, rfl, _, _, rfl, C, (sl_nil _ _ _)⟩
        · refine cw_f rfl b58 (cw_skip (k55 _ _ (cw_region (sv (mvv v52 rfl) (sv (asv v52 rfl) (W.e (k39 _ _ (cw_region (sv (mvv (.int .i64 x30) rfl) ?_)))))))))
          obtain ⟨y62, h63, h32⟩ := pur_some h32
          refine sv (rv_add rfl rfl h63) (sv (asv (.int .i64 y62) rfl) (W.e ?_))
          obtain rfl := Option.some.inj h32
          exact ⟨_, rfl, ⟨_, _, C, ⟨rfl, rfl, rfl, trivial⟩, h0, h53⟩⟩
      · refine cw_f rfl b37 (cw_exit ?_)
        obtain rfl := Option.some.inj h32
        have h64 := congrArg some h31
        obtain rfl := Option.some.inj h64
        exact ⟨_, rfl, ⟨_, _, C, ⟨rfl, trivial⟩, h27⟩⟩
    · rintro ρ w66 ⟨o17n, rfl, ⟨S65, v67, C, h69, h68⟩⟩
      replace h := h.1 _ rfl
      refine h69.cw fun ρ => ?_
      clear h69
      refine cw_seq fun K70 k71 => ?_
      refine cw_region (sv (mvv v67 rfl) (sv (asv v67 rfl) (sv (asv (.int .i64 0) rfl) (W.e (k71 _ _ (cw_ret ?_))))))
      obtain rfl := Option.some.inj h
      exact ⟨_, rfl, _, _, rfl, C, h68⟩

noncomputable def marigraphlaw06_PostAll.b2 (a0 : List (List Int)) (x17 : List (List Int)) (x18 : Int) : Option (((List (List Int)) × Int) ⊕ ((List (List Int)))) :=
  (bif (decide (x18 < (a0.length : Int))) then (((at_ a0 x18).bind fun y32 => (bif (decide (x18 < (10 : Int))) then (pur (if (300 : Int) < (y32.length : Int) then (300 : Int) else (y32.length : Int)) fun y40 => ((upto_ y32 y40).bind fun y42 => ((app_ 24 x17 ([y42] : List (List Int))).bind fun y53 => some y53))) else some x17)).bind fun o26 => (pur (IntKind.i64.wrap (x18 + (1 : Int))) fun y66 => some (.inl (o26, y66)))) else some (.inr x17))
noncomputable def marigraphlaw06_PostAll (a0 : List (List Int)) : Option Bool :=
  ((iter (fun s : (List (List Int)) × Int => marigraphlaw06_PostAll.b2 a0 s.1 s.2) (([] : List (List Int)), (0 : Int))).bind fun o5 => ((post_All o5).bind fun y76 => ((marigraphref06_All o5).bind fun y85 => (((marigraphlaw06_shown).bind fun y96 => (bif y96 then ((marigraphref04_Ints y76.1 y85.1).bind fun y102 => (bif y102 then some (y76.2 == y85.2) else some false)) else some false)).bind fun o92 => some o92))))
set_option maxRecDepth 100000 in
set_option maxHeartbeats 4000000 in
theorem marigraphlaw06_PostAll_w {S : Nat → Prop} {w : World} {a0 : List (List Int)} {v0 : Value} {r : Bool} (hS : Sb S w) (h0 : Sl (kSl (kSl (kI .i64))) S w v0 a0) (h : marigraphlaw06_PostAll a0 = some r) :
    Calls Try.prog 6 (List.toArray [v0]) w fun e w1 => ∃ S1, e = .returned (.bool r) ∧ Cx No S w S1 w1 := by
  refine enter Try.func6 rfl (by kernel_rfl) rfl ?_
  have C := Cx.refl (F := No) hS
  unfold marigraphlaw06_PostAll at h
  refine cw_seq fun K1 k2 => ?_
  refine cw_region (sv (asv (.bool false) rfl) (W.e (k2 _ _ ?_)))
  refine cw_seq fun K3 k4 => ?_
  refine cw_region (sv (asv (.slice none 0 0) rfl) (W.e (k4 _ _ ?_)))
  obtain ⟨o5, h8, h⟩ := bnd_some h
  refine cw_seq' (fun ρ w1 => ∃ S1 v71, Cx No S w S1 w1 ∧ Has ρ [(3, v71)] ∧ Ow (kSl (kI .i64)) 22 S1 w.heap.size w1 v71 o5) ?_ ?_
  · refine cw_seq fun K9 k10 => ?_
    refine cw_region (sv (mvv v0 rfl) (sv (rv_lenS el36 h0 rfl) (sv (mvv (.int .i64 0) rfl) (W.e (k10 _ _ (cw_block ?_))))))
    refine cw_iter h8 (fun s ρ w1 => ∃ S1 v14, Cx No S w S1 w1 ∧ Has ρ [(3, v14), (10, v0), (11, .int .i64 (a0.length : Int)), (12, .int .i64 s.2)] ∧ Ow (kSl (kI .i64)) 22 S1 w.heap.size w1 v14 s.1 ∧ Sl (kSl (kSl (kI .i64))) S1 w1 v0 a0) ⟨_, _, C, ⟨rfl, rfl, rfl, rfl, trivial⟩, Ow.nil _ _ _ _ _, h0⟩ ?_
    rintro ⟨x17, x18⟩ q11 ρ w13 ⟨S12, v14, C, h16, h15, h0⟩ h20 h19
    refine h16.cw fun ρ => ?_
    clear h16
    replace h20 : marigraphlaw06_PostAll.b2 a0 x17 x18 = some q11 := h20
    unfold marigraphlaw06_PostAll.b2 at h20
    refine cw_seq fun K21 k22 => ?_
    refine cw_region (sv (rv_lss rfl rfl) (W.e (k22 _ _ ?_)))
    refine cw_seq fun K23 k24 => ?_
    rcases bif_some h20 with ⟨b25, h20⟩ | ⟨b25, h20⟩
    · refine cw_t rfl b25 (cw_skip (k24 _ _ ?_))
      obtain ⟨o26, h29, h20⟩ := bnd_some h20
      refine cw_seq' (fun ρ w1 => ∃ S1 v63, Cx No S w S1 w1 ∧ Has ρ [(3, v63), (10, v0), (11, .int .i64 (a0.length : Int)), (12, .int .i64 x18)] ∧ Ow (kSl (kI .i64)) 22 S1 w.heap.size w1 v63 o26 ∧ Sl (kSl (kSl (kI .i64))) S1 w1 v0 a0) ?_ ?_
      · refine cw_block ?_
        refine cw_seq fun K30 k31 => ?_
        refine cw_region (sv (mvv (.int .i64 x18) rfl) ?_)
        obtain ⟨y32, h33, h29⟩ := bnd_some h29
        refine sv (rv_index el36 h0 rfl rfl h33) ?_
        obtain ⟨v34, h35, h36⟩ := rw_loadA (P := Try.prog) el36 h0 h33
        refine sr (h36 _ (Sm.refl _ _) rfl) (sv (asv (.int .i64 x18) rfl) (sv (asv v34 rfl) (W.e (k31 _ _ ?_))))
        refine cw_seq fun K37 k38 => ?_
        refine cw_region (sv (mvv (.int .i64 x18) rfl) (sv (rv_lss rfl rfl) (W.e (k38 _ _ ?_))))
        rcases bif_some h29 with ⟨b39, h29⟩ | ⟨b39, h29⟩
        · refine cw_t rfl b39 (cw_region (sv (mvv v14 rfl) (sv (mvv v34 rfl) (sv (mvv v34 rfl) (sv (rv_lenS el22 h35 rfl) ?_)))))
          obtain ⟨y40, h41, h29⟩ := pur_some h29
          refine sv (rv_min rfl rfl h41) ?_
          obtain ⟨y42, h43, h29⟩ := bnd_some h29
          obtain ⟨v44, h45, h46⟩ := rv_uptoA (P := Try.prog) el22 h35 h43
          refine sv (h46 rfl rfl) ?_
          refine sc (dc_lit (vs := [v44]) (xs := ([y42] : List (List Int))) (base := w.heap.size) el36 rfl rfl (.cons h45 (.nil)) (Nat.le_of_ble_eq_true rfl) C.up.size C.sb fun v47 w48 h49 h50 u51 => ?_)
          have p52 := Ap.new h50 h15
          replace h15 := h15.nw u51
          replace h0 := h0.nw u51
          replace C := C.new u51
          obtain ⟨y53, h54, h29⟩ := bnd_some h29
          have h60 := h15
          refine sc (dc_append el36 (by decide) h60 h49.src rfl rfl h54 C.up.size C.sb fun v55 w56 h57 u58 h59 => ?_)
          replace h0 := h0.wr u58 h60.not
          replace C := C.ow h60 u58
          refine sv (asv v55 rfl) (W.e ?_)
          obtain rfl := Option.some.inj h29
          exact ⟨_, _, C, ⟨rfl, rfl, rfl, rfl, trivial⟩, h57, h0⟩
        · refine cw_f rfl b39 (cw_skip ?_)
          obtain rfl := Option.some.inj h29
          exact ⟨_, _, C, ⟨rfl, rfl, rfl, rfl, trivial⟩, h15, h0⟩
      · rintro ρ w62 ⟨S61, v63, C, h65, h64, h0⟩
        refine h65.cw fun ρ => ?_
        clear h65
        refine cw_region ?_
        obtain ⟨y66, h67, h20⟩ := pur_some h20
        refine sv (rv_add rfl rfl h67) (sv (mvv (.int .i64 y66) rfl) (W.e ?_))
        obtain rfl := Option.some.inj h20
        exact ⟨_, rfl, ⟨_, _, C, ⟨rfl, rfl, rfl, rfl, trivial⟩, h64, h0⟩⟩
    · refine cw_f rfl b25 (cw_exit ?_)
      obtain rfl := Option.some.inj h20
      have h68 := congrArg some h19
      obtain rfl := Option.some.inj h68
      exact ⟨_, _, C, ⟨rfl, trivial⟩, h15⟩
  · rintro ρ w70 ⟨S69, v71, C, h73, h72⟩
    refine h73.cw fun ρ => ?_
    clear h73
    refine cw_seq fun K74 k75 => ?_
    refine cw_region (sv (mvv v71 rfl) ?_)
    replace C := C.sealO h72
    replace h72 := h72.sealed
    obtain ⟨y76, h77, h⟩ := bnd_some h
    refine sc (dc_call (vs := [v71]) can23 rfl ?_)
    refine (post_All_w C.sb h72 h77).mono ?_
    rintro _ w78 ⟨S79, v81, rfl, c80, h82⟩
    refine ⟨_, rfl, ?_⟩
    replace h72 := h72.cx c80
    replace C := C.trans c80
    refine sv (mvv (.tuple (List.toArray [v81, .int .i64 y76.2])) rfl) (sv (rv_extract rfl rfl) (sv (rv_extract rfl rfl) (sv (asv v81 rfl) (sv (asv (.int .i64 y76.2) rfl) (W.e (k75 _ _ ?_))))))
    refine cw_seq fun K83 k84 => ?_
    refine cw_region (sv (mvv v71 rfl) ?_)
    obtain ⟨y85, h86, h⟩ := bnd_some h
    refine sc (dc_call (vs := [v71]) can24 rfl ?_)
    refine (marigraphref06_All_w C.sb h72 h86).mono ?_
    rintro _ w87 ⟨S88, v90, rfl, c89, h91⟩
    refine ⟨_, rfl, ?_⟩
    replace h82 := h82.cx c89
    replace C := C.trans c89
    refine sv (mvv (.tuple (List.toArray [v90, .int .i64 y85.2])) rfl) (sv (rv_extract rfl rfl) (sv (rv_extract rfl rfl) (sv (asv v90 rfl) (sv (asv (.int .i64 y85.2) rfl) (W.e (k84 _ _ ?_))))))
    obtain ⟨o92, h95, h⟩ := bnd_some h
    refine cw_seq' (fun ρ w1 => ∃ S1, Cx No S w S1 w1 ∧ Has ρ [(2, .bool o92)]) ?_ ?_
    · refine cw_region ?_
      obtain ⟨y96, h97, h95⟩ := bnd_some h95
      refine sc (dc_call (vs := []) can11 rfl ?_)
      refine (marigraphlaw06_shown_w C.sb  h97).mono ?_
      rintro _ w98 ⟨S99, rfl, c100⟩
      refine ⟨_, rfl, ?_⟩
      replace h82 := h82.cx c100
      replace h91 := h91.cx c100
      replace C := C.trans c100
      refine sv (mvv (.bool y96) rfl) ?_
      rcases bif_some h95 with ⟨b101, h95⟩ | ⟨b101, h95⟩
      · refine W.v (gy rfl rfl rfl b101) (mvv v81 rfl) (W.v (gy rfl rfl rfl b101) (mvv v90 rfl) ?_)
        obtain ⟨y102, h103, h95⟩ := bnd_some h95
        refine W.c (gy rfl rfl rfl b101) (dc_call (vs := [v81, v90]) can13 rfl ?_)
        refine (marigraphref04_Ints_w C.sb h82 h91 h103).mono ?_
        rintro _ w104 ⟨S105, rfl, c106⟩
        refine ⟨_, rfl, ?_⟩
        replace C := C.trans c106
        refine sv (ptk (.bool y102) rfl b101 rfl) (sv (mvv (.bool y102) rfl) ?_)
        rcases bif_some h95 with ⟨b107, h95⟩ | ⟨b107, h95⟩
        · refine W.v (gy rfl rfl rfl b107) (mvv (.int .i64 y76.2) rfl) (W.v (gy rfl rfl rfl b107) (mvv (.int .i64 y85.2) rfl) (W.v (gy rfl rfl rfl b107) (rv_eql rfl rfl) (sv (ptk (.bool (y76.2 == y85.2)) rfl b107 rfl) (sv (asv (.bool (y76.2 == y85.2)) rfl) (W.e ?_)))))
          obtain rfl := Option.some.inj h95
          exact ⟨_, C, ⟨rfl, trivial⟩⟩
        · refine W.n (gn rfl rfl rfl b107) (W.n (gn rfl rfl rfl b107) (W.n (gn rfl rfl rfl b107) (sv (pfk (.bool false) rfl b107 rfl) (sv (asv (.bool false) rfl) (W.e ?_)))))
          obtain rfl := Option.some.inj h95
          exact ⟨_, C, ⟨rfl, trivial⟩⟩
      · refine W.n (gn rfl rfl rfl b101) (W.n (gn rfl rfl rfl b101) (W.n (gn rfl rfl rfl b101) (sv (pfk (.bool false) rfl b101 rfl) (sv (mvv (.bool false) rfl) (W.n (gn rfl rfl rfl rfl) (W.n (gn rfl rfl rfl rfl) (W.n (gn rfl rfl rfl rfl) (sv (pfk (.bool false) rfl rfl rfl) (sv (asv (.bool false) rfl) (W.e ?_))))))))))
        obtain rfl := Option.some.inj h95
        exact ⟨_, C, ⟨rfl, trivial⟩⟩
    · rintro ρ w109 ⟨S108, C, h110⟩
      refine h110.cw fun ρ => ?_
      clear h110
      refine cw_ret ?_
      obtain rfl := Option.some.inj h
      exact ⟨_, rfl, _, rfl, C⟩

noncomputable def marigraphlaw06_PostTwo (a0 : List Int) (a1 : List Int) : Option Bool :=
  ((marigraphlaw06_shown).bind fun y5 => ((marigraphlaw06_some a0).bind fun y12 => ((marigraphlaw06_some a1).bind fun y19 => ((post_All ([y12, y19] : List (List Int))).bind fun y33 => ((post_All ([y19, y12, y19] : List (List Int))).bind fun y47 => ((post_And y12 y19).bind fun y56 => ((bif y5 then (bif (y33.2 == (0 : Int)) then (bif (y47.2 == (0 : Int)) then (bif (y56.2 == (0 : Int)) then ((marigraphref04_Ints y33.1 y56.1).bind fun y71 => (bif y71 then ((marigraphref04_Ints y47.1 y56.1).bind fun y77 => some y77) else some false)) else some false) else some false) else some false) else some false).bind fun o63 => some o63)))))))
set_option maxRecDepth 100000 in
set_option maxHeartbeats 4000000 in
theorem marigraphlaw06_PostTwo_w {S : Nat → Prop} {w : World} {a0 : List Int} {a1 : List Int} {v0 v1 : Value} {r : Bool} (hS : Sb S w) (h0 : Sl (kSl (kI .i64)) S w v0 a0) (h1 : Sl (kSl (kI .i64)) S w v1 a1) (h : marigraphlaw06_PostTwo a0 a1 = some r) :
    Calls Try.prog 7 (List.toArray [v0, v1]) w fun e w1 => ∃ S1, e = .returned (.bool r) ∧ Cx No S w S1 w1 := by
  refine enter Try.func7 rfl (by kernel_rfl) rfl ?_
  have C := Cx.refl (F := No) hS
  unfold marigraphlaw06_PostTwo at h
  refine cw_seq fun K1 k2 => ?_
  refine cw_region (sv (asv (.bool false) rfl) (W.e (k2 _ _ ?_)))
  refine cw_seq fun K3 k4 => ?_
  refine cw_region ?_
  obtain ⟨y5, h6, h⟩ := bnd_some h
  refine sc (dc_call (vs := []) can11 rfl ?_)
  refine (marigraphlaw06_shown_w C.sb  h6).mono ?_
  rintro _ w7 ⟨S8, rfl, c9⟩
  refine ⟨_, rfl, ?_⟩
  replace h0 := h0.cx c9
  replace h1 := h1.cx c9
  replace C := C.trans c9
  refine sv (asv (.bool y5) rfl) (W.e (k4 _ _ ?_))
  refine cw_seq fun K10 k11 => ?_
  refine cw_region (sv (mvv v0 rfl) ?_)
  obtain ⟨y12, h13, h⟩ := bnd_some h
  refine sc (dc_call (vs := [v0]) can15 rfl ?_)
  refine (marigraphlaw06_some_w C.sb h0 h13).mono ?_
  rintro _ w14 ⟨S15, v17, rfl, c16, h18⟩
  refine ⟨_, rfl, ?_⟩
  replace h1 := h1.cx c16
  replace C := C.trans c16
  refine sv (mvv v1 rfl) ?_
  obtain ⟨y19, h20, h⟩ := bnd_some h
  refine sc (dc_call (vs := [v1]) can15 rfl ?_)
  refine (marigraphlaw06_some_w C.sb h1 h20).mono ?_
  rintro _ w21 ⟨S22, v24, rfl, c23, h25⟩
  refine ⟨_, rfl, ?_⟩
  replace h18 := h18.cx c23
  replace C := C.trans c23
  refine sv (asv v17 rfl) (sv (asv v24 rfl) (W.e (k11 _ _ ?_)))
  refine cw_seq fun K26 k27 => ?_
  refine cw_region (sv (mvv v17 rfl) (sv (mvv v24 rfl) ?_))
  refine sc (dc_lit (vs := [v17, v24]) (xs := ([y12, y19] : List (List Int))) (base := w.heap.size) el36 rfl rfl (.cons h18 (.cons h25 (.nil))) (Nat.le_of_ble_eq_true rfl) C.up.size C.sb fun v28 w29 h30 h31 u32 => ?_)
  replace h18 := h18.nw u32
  replace h25 := h25.nw u32
  replace C := C.new u32
  replace h18 := h18.or (T := Blk v28)
  replace h25 := h25.or (T := Blk v28)
  replace C := C.sealO h30
  replace h30 := h30.sealed
  obtain ⟨y33, h34, h⟩ := bnd_some h
  refine sc (dc_call (vs := [v28]) can23 rfl ?_)
  refine (post_All_w C.sb h30 h34).mono ?_
  rintro _ w35 ⟨S36, v38, rfl, c37, h39⟩
  refine ⟨_, rfl, ?_⟩
  replace h18 := h18.cx c37
  replace h25 := h25.cx c37
  replace C := C.trans c37
  refine sv (mvv (.tuple (List.toArray [v38, .int .i64 y33.2])) rfl) (sv (rv_extract rfl rfl) (sv (rv_extract rfl rfl) (sv (asv v38 rfl) (sv (asv (.int .i64 y33.2) rfl) (W.e (k27 _ _ ?_))))))
  refine cw_seq fun K40 k41 => ?_
  refine cw_region (sv (mvv v24 rfl) (sv (mvv v17 rfl) (sv (mvv v24 rfl) ?_)))
  refine sc (dc_lit (vs := [v24, v17, v24]) (xs := ([y19, y12, y19] : List (List Int))) (base := w.heap.size) el36 rfl rfl (.cons h25 (.cons h18 (.cons h25 (.nil)))) (Nat.le_of_ble_eq_true rfl) C.up.size C.sb fun v42 w43 h44 h45 u46 => ?_)
  replace h18 := h18.nw u46
  replace h25 := h25.nw u46
  replace h39 := h39.nw u46
  replace C := C.new u46
  replace h18 := h18.or (T := Blk v42)
  replace h25 := h25.or (T := Blk v42)
  replace h39 := h39.or (T := Blk v42)
  replace C := C.sealO h44
  replace h44 := h44.sealed
  obtain ⟨y47, h48, h⟩ := bnd_some h
  refine sc (dc_call (vs := [v42]) can23 rfl ?_)
  refine (post_All_w C.sb h44 h48).mono ?_
  rintro _ w49 ⟨S50, v52, rfl, c51, h53⟩
  refine ⟨_, rfl, ?_⟩
  replace h18 := h18.cx c51
  replace h25 := h25.cx c51
  replace h39 := h39.cx c51
  replace C := C.trans c51
  refine sv (mvv (.tuple (List.toArray [v52, .int .i64 y47.2])) rfl) (sv (rv_extract rfl rfl) (sv (rv_extract rfl rfl) (sv (asv v52 rfl) (sv (asv (.int .i64 y47.2) rfl) (W.e (k41 _ _ ?_))))))
  refine cw_seq fun K54 k55 => ?_
  refine cw_region (sv (mvv v17 rfl) (sv (mvv v24 rfl) ?_))
  obtain ⟨y56, h57, h⟩ := bnd_some h
  refine sc (dc_call (vs := [v17, v24]) can16 rfl ?_)
  refine (post_And_w C.sb h18 h25 h57).mono ?_
  rintro _ w58 ⟨S59, v61, rfl, c60, h62⟩
  refine ⟨_, rfl, ?_⟩
  replace h39 := h39.cx c60
  replace h53 := h53.cx c60
  replace C := C.trans c60
  refine sv (mvv (.tuple (List.toArray [v61, .int .i64 y56.2])) rfl) (sv (rv_extract rfl rfl) (sv (rv_extract rfl rfl) (sv (asv v61 rfl) (sv (asv (.int .i64 y56.2) rfl) (W.e (k55 _ _ ?_))))))
  obtain ⟨o63, h66, h⟩ := bnd_some h
  refine cw_seq' (fun ρ w1 => ∃ S1, Cx No S w S1 w1 ∧ Has ρ [(4, .bool o63)]) ?_ ?_
  · refine cw_region (sv (mvv (.bool y5) rfl) (sv (mvv (.bool y5) rfl) ?_))
    rcases bif_some h66 with ⟨b67, h66⟩ | ⟨b67, h66⟩
    · refine W.v (gy rfl rfl rfl b67) (mvv (.int .i64 y33.2) rfl) (W.v (gy rfl rfl rfl b67) (rv_eql rfl rfl) (sv (ptk (.bool (y33.2 == (0 : Int))) rfl b67 rfl) (sv (mvv (.bool (y33.2 == (0 : Int))) rfl) ?_)))
      rcases bif_some h66 with ⟨b68, h66⟩ | ⟨b68, h66⟩
      · refine W.v (gy rfl rfl rfl b68) (mvv (.int .i64 y47.2) rfl) (W.v (gy rfl rfl rfl b68) (rv_eql rfl rfl) (sv (ptk (.bool (y47.2 == (0 : Int))) rfl b68 rfl) (sv (mvv (.bool (y47.2 == (0 : Int))) rfl) ?_)))
        rcases bif_some h66 with ⟨b69, h66⟩ | ⟨b69, h66⟩
        · refine W.v (gy rfl rfl rfl b69) (mvv (.int .i64 y56.2) rfl) (W.v (gy rfl rfl rfl b69) (rv_eql rfl rfl) (sv (ptk (.bool (y56.2 == (0 : Int))) rfl b69 rfl) (sv (mvv (.bool (y56.2 == (0 : Int))) rfl) ?_)))
          rcases bif_some h66 with ⟨b70, h66⟩ | ⟨b70, h66⟩
          · refine W.v (gy rfl rfl rfl b70) (mvv v38 rfl) (W.v (gy rfl rfl rfl b70) (mvv v61 rfl) ?_)
            obtain ⟨y71, h72, h66⟩ := bnd_some h66
            refine W.c (gy rfl rfl rfl b70) (dc_call (vs := [v38, v61]) can13 rfl ?_)
            refine (marigraphref04_Ints_w C.sb h39 h62 h72).mono ?_
            rintro _ w73 ⟨S74, rfl, c75⟩
            refine ⟨_, rfl, ?_⟩
            replace h53 := h53.cx c75
            replace h62 := h62.cx c75
            replace C := C.trans c75
            refine sv (ptk (.bool y71) rfl b70 rfl) (sv (mvv (.bool y71) rfl) ?_)
            rcases bif_some h66 with ⟨b76, h66⟩ | ⟨b76, h66⟩
            · refine W.v (gy rfl rfl rfl b76) (mvv v52 rfl) (W.v (gy rfl rfl rfl b76) (mvv v61 rfl) ?_)
              obtain ⟨y77, h78, h66⟩ := bnd_some h66
              refine W.c (gy rfl rfl rfl b76) (dc_call (vs := [v52, v61]) can13 rfl ?_)
              refine (marigraphref04_Ints_w C.sb h53 h62 h78).mono ?_
              rintro _ w79 ⟨S80, rfl, c81⟩
              refine ⟨_, rfl, ?_⟩
              replace C := C.trans c81
              refine sv (ptk (.bool y77) rfl b76 rfl) (sv (asv (.bool y77) rfl) (W.e ?_))
              obtain rfl := Option.some.inj h66
              exact ⟨_, C, ⟨rfl, trivial⟩⟩
            · refine W.n (gn rfl rfl rfl b76) (W.n (gn rfl rfl rfl b76) (W.n (gn rfl rfl rfl b76) (sv (pfk (.bool false) rfl b76 rfl) (sv (asv (.bool false) rfl) (W.e ?_)))))
              obtain rfl := Option.some.inj h66
              exact ⟨_, C, ⟨rfl, trivial⟩⟩
          · refine W.n (gn rfl rfl rfl b70) (W.n (gn rfl rfl rfl b70) (W.n (gn rfl rfl rfl b70) (sv (pfk (.bool false) rfl b70 rfl) (sv (mvv (.bool false) rfl) (W.n (gn rfl rfl rfl rfl) (W.n (gn rfl rfl rfl rfl) (W.n (gn rfl rfl rfl rfl) (sv (pfk (.bool false) rfl rfl rfl) (sv (asv (.bool false) rfl) (W.e ?_))))))))))
            obtain rfl := Option.some.inj h66
            exact ⟨_, C, ⟨rfl, trivial⟩⟩
        · refine W.n (gn rfl rfl rfl b69) (W.n (gn rfl rfl rfl b69) (sv (pfk (.bool false) rfl b69 rfl) (sv (mvv (.bool false) rfl) (W.n (gn rfl rfl rfl rfl) (W.n (gn rfl rfl rfl rfl) (W.n (gn rfl rfl rfl rfl) (sv (pfk (.bool false) rfl rfl rfl) (sv (mvv (.bool false) rfl) (W.n (gn rfl rfl rfl rfl) (W.n (gn rfl rfl rfl rfl) (W.n (gn rfl rfl rfl rfl) ?_)))))))))))
          refine sv (pfk (.bool false) rfl rfl rfl) (sv (asv (.bool false) rfl) (W.e ?_))
          obtain rfl := Option.some.inj h66
          exact ⟨_, C, ⟨rfl, trivial⟩⟩
      · refine W.n (gn rfl rfl rfl b68) (W.n (gn rfl rfl rfl b68) (sv (pfk (.bool false) rfl b68 rfl) (sv (mvv (.bool false) rfl) (W.n (gn rfl rfl rfl rfl) (W.n (gn rfl rfl rfl rfl) (sv (pfk (.bool false) rfl rfl rfl) (sv (mvv (.bool false) rfl) (W.n (gn rfl rfl rfl rfl) (W.n (gn rfl rfl rfl rfl) (W.n (gn rfl rfl rfl rfl) (sv (pfk (.bool false) rfl rfl rfl) ?_)))))))))))
        refine sv (mvv (.bool false) rfl) (W.n (gn rfl rfl rfl rfl) (W.n (gn rfl rfl rfl rfl) (W.n (gn rfl rfl rfl rfl) (sv (pfk (.bool false) rfl rfl rfl) (sv (asv (.bool false) rfl) (W.e ?_))))))
        obtain rfl := Option.some.inj h66
        exact ⟨_, C, ⟨rfl, trivial⟩⟩
    · refine W.n (gn rfl rfl rfl b67) (W.n (gn rfl rfl rfl b67) (sv (pfk (.bool false) rfl b67 rfl) (sv (mvv (.bool false) rfl) (W.n (gn rfl rfl rfl rfl) (W.n (gn rfl rfl rfl rfl) (sv (pfk (.bool false) rfl rfl rfl) (sv (mvv (.bool false) rfl) (W.n (gn rfl rfl rfl rfl) (W.n (gn rfl rfl rfl rfl) (sv (pfk (.bool false) rfl rfl rfl) (sv (mvv (.bool false) rfl) ?_)))))))))))
      refine W.n (gn rfl rfl rfl rfl) (W.n (gn rfl rfl rfl rfl) (W.n (gn rfl rfl rfl rfl) (sv (pfk (.bool false) rfl rfl rfl) (sv (mvv (.bool false) rfl) (W.n (gn rfl rfl rfl rfl) (W.n (gn rfl rfl rfl rfl) (W.n (gn rfl rfl rfl rfl) (sv (pfk (.bool false) rfl rfl rfl) (sv (asv (.bool false) rfl) (W.e ?_))))))))))
      obtain rfl := Option.some.inj h66
      exact ⟨_, C, ⟨rfl, trivial⟩⟩
  · rintro ρ w83 ⟨S82, C, h84⟩
    refine h84.cw fun ρ => ?_
    clear h84
    refine cw_ret ?_
    obtain rfl := Option.some.inj h
    exact ⟨_, rfl, _, rfl, C⟩

noncomputable def cmp_isNaN_int (a0 : Int) : Option Bool :=
  some (a0 != a0)
set_option maxRecDepth 100000 in
set_option maxHeartbeats 4000000 in
theorem cmp_isNaN_int_w {S : Nat → Prop} {w : World} {a0 : Int} {r : Bool} (hS : Sb S w)  (h : cmp_isNaN_int a0 = some r) :
    Calls Try.prog 51 (List.toArray [.int .i64 a0]) w fun e w1 => ∃ S1, e = .returned (.bool r) ∧ Cx No S w S1 w1 := by
  refine enter Try.func51 rfl (by kernel_rfl) rfl ?_
  have C := Cx.refl (F := No) hS
  unfold cmp_isNaN_int at h
  refine cw_seq fun K1 k2 => ?_
  refine cw_region (sv (asv (.bool false) rfl) (W.e (k2 _ _ ?_)))
  refine cw_seq fun K3 k4 => ?_
  refine cw_region (sv (mvv (.int .i64 a0) rfl) (sv (mvv (.int .i64 a0) rfl) (sv (rv_neq rfl rfl) (sv (asv (.bool (a0 != a0)) rfl) (W.e (k4 _ _ (cw_ret ?_)))))))
  obtain rfl := Option.some.inj h
  exact ⟨_, rfl, _, rfl, C⟩

noncomputable def cmp_Less_int (a0 : Int) (a1 : Int) : Option Bool :=
  (((cmp_isNaN_int a0).bind fun y7 => (bif y7 then ((cmp_isNaN_int a1).bind fun y13 => (bif (!y13) then some true else some (decide (a0 < a1)))) else some (decide (a0 < a1)))).bind fun o3 => some o3)
set_option maxRecDepth 100000 in
set_option maxHeartbeats 4000000 in
theorem cmp_Less_int_w {S : Nat → Prop} {w : World} {a0 : Int} {a1 : Int} {r : Bool} (hS : Sb S w)  (h : cmp_Less_int a0 a1 = some r) :
    Calls Try.prog 39 (List.toArray [.int .i64 a0, .int .i64 a1]) w fun e w1 => ∃ S1, e = .returned (.bool r) ∧ Cx No S w S1 w1 := by
  refine enter Try.func39 rfl (by kernel_rfl) rfl ?_
  have C := Cx.refl (F := No) hS
  unfold cmp_Less_int at h
  refine cw_seq fun K1 k2 => ?_
  refine cw_region (sv (asv (.bool false) rfl) (W.e (k2 _ _ ?_)))
  obtain ⟨o3, h6, h⟩ := bnd_some h
  refine cw_seq' (fun ρ w1 => ∃ S1, Cx No S w S1 w1 ∧ Has ρ [(4, .bool o3)]) ?_ ?_
  · refine cw_region (sv (mvv (.int .i64 a0) rfl) ?_)
    obtain ⟨y7, h8, h6⟩ := bnd_some h6
    refine sc (dc_call (vs := [.int .i64 a0]) can51 rfl ?_)
    refine (cmp_isNaN_int_w C.sb  h8).mono ?_
    rintro _ w9 ⟨S10, rfl, c11⟩
    refine ⟨_, rfl, ?_⟩
    replace C := C.trans c11
    refine sv (mvv (.bool y7) rfl) ?_
    rcases bif_some h6 with ⟨b12, h6⟩ | ⟨b12, h6⟩
    · refine W.v (gy rfl rfl rfl b12) (mvv (.int .i64 a1) rfl) ?_
      obtain ⟨y13, h14, h6⟩ := bnd_some h6
      refine W.c (gy rfl rfl rfl b12) (dc_call (vs := [.int .i64 a1]) can51 rfl ?_)
      refine (cmp_isNaN_int_w C.sb  h14).mono ?_
      rintro _ w15 ⟨S16, rfl, c17⟩
      refine ⟨_, rfl, ?_⟩
      replace C := C.trans c17
      refine W.v (gy rfl rfl rfl b12) (rv_not rfl) (sv (ptk (.bool (!y13)) rfl b12 rfl) (sv (mvv (.bool (!y13)) rfl) ?_))
      rcases bif_some h6 with ⟨b18, h6⟩ | ⟨b18, h6⟩
      · refine W.n (gn rfl rfl rfl b18) (W.n (gn rfl rfl rfl b18) (W.n (gn rfl rfl rfl b18) (sv (ptk (.bool true) rfl b18 rfl) (sv (asv (.bool true) rfl) (W.e ?_)))))
        obtain rfl := Option.some.inj h6
        exact ⟨_, C, ⟨rfl, trivial⟩⟩
      · refine W.v (gy rfl rfl rfl b18) (mvv (.int .i64 a0) rfl) (W.v (gy rfl rfl rfl b18) (mvv (.int .i64 a1) rfl) (W.v (gy rfl rfl rfl b18) (rv_lss rfl rfl) (sv (pfk (.bool (decide (a0 < a1))) rfl b18 rfl) (sv (asv (.bool (decide (a0 < a1))) rfl) (W.e ?_)))))
        obtain rfl := Option.some.inj h6
        exact ⟨_, C, ⟨rfl, trivial⟩⟩
    · refine W.n (gn rfl rfl rfl b12) (W.n (gn rfl rfl rfl b12) (W.n (gn rfl rfl rfl b12) (sv (pfk (.bool false) rfl b12 rfl) (sv (mvv (.bool false) rfl) (W.v (gy rfl rfl rfl rfl) (mvv (.int .i64 a0) rfl) (W.v (gy rfl rfl rfl rfl) (mvv (.int .i64 a1) rfl) (W.v (gy rfl rfl rfl rfl) (rv_lss rfl rfl) (sv (pfk (.bool (decide (a0 < a1))) rfl rfl rfl) (sv (asv (.bool (decide (a0 < a1))) rfl) (W.e ?_))))))))))
      obtain rfl := Option.some.inj h6
      exact ⟨_, C, ⟨rfl, trivial⟩⟩
  · rintro ρ w20 ⟨S19, C, h21⟩
    refine h21.cw fun ρ => ?_
    clear h21
    refine cw_ret ?_
    obtain rfl := Option.some.inj h
    exact ⟨_, rfl, _, rfl, C⟩

noncomputable def slices_isNaN_int (a0 : Int) : Option Bool :=
  some (a0 != a0)
set_option maxRecDepth 100000 in
set_option maxHeartbeats 4000000 in
theorem slices_isNaN_int_w {S : Nat → Prop} {w : World} {a0 : Int} {r : Bool} (hS : Sb S w)  (h : slices_isNaN_int a0 = some r) :
    Calls Try.prog 40 (List.toArray [.int .i64 a0]) w fun e w1 => ∃ S1, e = .returned (.bool r) ∧ Cx No S w S1 w1 := by
  refine enter Try.func40 rfl (by kernel_rfl) rfl ?_
  have C := Cx.refl (F := No) hS
  unfold slices_isNaN_int at h
  refine cw_seq fun K1 k2 => ?_
  refine cw_region (sv (asv (.bool false) rfl) (W.e (k2 _ _ ?_)))
  refine cw_seq fun K3 k4 => ?_
  refine cw_region (sv (mvv (.int .i64 a0) rfl) (sv (mvv (.int .i64 a0) rfl) (sv (rv_neq rfl rfl) (sv (asv (.bool (a0 != a0)) rfl) (W.e (k4 _ _ (cw_ret ?_)))))))
  obtain rfl := Option.some.inj h
  exact ⟨_, rfl, _, rfl, C⟩

noncomputable def slices_BinarySearch_int_int.b2 (a0 : List Int) (a1 : Int) (x15 : Int) (x16 : Int) : Option ((Int × Int) ⊕ (Int)) :=
  (bif (decide (x15 < x16)) then (pur (IntKind.i64.wrap (x15 + x16)) fun y26 => (pur (IntKind.u64.wrap y26) fun y28 => (pur (ishr .u64 y28 (1 : Int)) fun y30 => (pur (IntKind.i64.wrap y30) fun y32 => ((at_ a0 y32).bind fun y36 => ((cmp_Less_int y36 a1).bind fun y38 => (bif y38 then (pur (IntKind.i64.wrap (y32 + (1 : Int))) fun y44 => some (.inl (y44, x16))) else some (.inl (x15, y32))))))))) else some (.inr x15))
noncomputable def slices_BinarySearch_int_int (a0 : List Int) (a1 : Int) : Option (Int × Bool) :=
  ((iter (fun s : Int × Int => slices_BinarySearch_int_int.b2 a0 a1 s.1 s.2) ((0 : Int), (a0.length : Int))).bind fun o7 => ((bif (decide (o7 < (a0.length : Int))) then ((at_ a0 o7).bind fun y55 => (bif (y55 == a1) then some (o7, true) else ((at_ a0 o7).bind fun y58 => ((slices_isNaN_int y58).bind fun y60 => (bif y60 then ((slices_isNaN_int a1).bind fun y66 => some (o7, y66)) else some (o7, false)))))) else some (o7, false)).bind fun o50 => some (o50.1, o50.2)))
set_option maxRecDepth 100000 in
set_option maxHeartbeats 4000000 in
theorem slices_BinarySearch_int_int_w {S : Nat → Prop} {w : World} {a0 : List Int} {a1 : Int} {v0 : Value} {r : Int × Bool} (hS : Sb S w) (h0 : Sl (kSl (kI .i64)) S w v0 a0) (h : slices_BinarySearch_int_int a0 a1 = some r) :
    Calls Try.prog 36 (List.toArray [v0, .int .i64 a1]) w fun e w1 => ∃ S1, e = .returned (.tuple (List.toArray [.int .i64 r.1, .bool r.2])) ∧ Cx No S w S1 w1 := by
  refine enter Try.func36 rfl (by kernel_rfl) rfl ?_
  have C := Cx.refl (F := No) hS
  unfold slices_BinarySearch_int_int at h
  refine cw_seq fun K1 k2 => ?_
  refine cw_region (sv (asv (.int .i64 0) rfl) (sv (asv (.bool false) rfl) (W.e (k2 _ _ ?_))))
  refine cw_seq fun K3 k4 => ?_
  refine cw_region (sv (mvv v0 rfl) (sv (rv_lenS el22 h0 rfl) (sv (asv (.int .i64 (a0.length : Int)) rfl) (W.e (k4 _ _ ?_)))))
  refine cw_seq fun K5 k6 => ?_
  refine cw_region (sv (mvv (.int .i64 (a0.length : Int)) rfl) (sv (asv (.int .i64 0) rfl) (sv (asv (.int .i64 (a0.length : Int)) rfl) (W.e (k6 _ _ ?_)))))
  obtain ⟨o7, h10, h⟩ := bnd_some h
  refine cw_seq' (fun ρ w1 => ∃ S1, Cx No S w S1 w1 ∧ Has ρ [(0, v0), (1, .int .i64 a1), (6, .int .i64 (a0.length : Int)), (7, .int .i64 o7)] ∧ Sl (kSl (kI .i64)) S1 w1 v0 a0) ?_ ?_
  · refine cw_block ?_
    refine cw_iter h10 (fun s ρ w1 => ∃ S1, Cx No S w S1 w1 ∧ Has ρ [(0, v0), (1, .int .i64 a1), (6, .int .i64 (a0.length : Int)), (7, .int .i64 s.1), (8, .int .i64 s.2)] ∧ Sl (kSl (kI .i64)) S1 w1 v0 a0) ⟨_, C, ⟨rfl, rfl, rfl, rfl, rfl, trivial⟩, h0⟩ ?_
    rintro ⟨x15, x16⟩ q11 ρ w13 ⟨S12, C, h14, h0⟩ h18 h17
    refine h14.cw fun ρ => ?_
    clear h14
    replace h18 : slices_BinarySearch_int_int.b2 a0 a1 x15 x16 = some q11 := h18
    unfold slices_BinarySearch_int_int.b2 at h18
    refine cw_seq fun K19 k20 => ?_
    refine cw_seq fun K21 k22 => ?_
    refine cw_region (sv (mvv (.int .i64 x15) rfl) (sv (mvv (.int .i64 x16) rfl) (sv (rv_lss rfl rfl) (W.e (k22 _ _ ?_)))))
    rcases bif_some h18 with ⟨b23, h18⟩ | ⟨b23, h18⟩
    · refine cw_t rfl b23 (cw_skip (k20 _ _ (cw_block ?_)))
      refine cw_seq fun K24 k25 => ?_
      refine cw_region (sv (mvv (.int .i64 x15) rfl) (sv (mvv (.int .i64 x16) rfl) ?_))
      obtain ⟨y26, h27, h18⟩ := pur_some h18
      refine sv (rv_add rfl rfl h27) ?_
      obtain ⟨y28, h29, h18⟩ := pur_some h18
      refine sv (rv_conv Try.underlying3 Try.underlying48 rfl h29) ?_
      obtain ⟨y30, h31, h18⟩ := pur_some h18
      refine sv (rv_shr rfl rfl (by decide) h31) ?_
      obtain ⟨y32, h33, h18⟩ := pur_some h18
      refine sv (rv_conv Try.underlying48 Try.underlying3 rfl h33) (sv (asv (.int .i64 y32) rfl) (W.e (k25 _ _ ?_)))
      refine cw_seq fun K34 k35 => ?_
      refine cw_region (sv (mvv v0 rfl) (sv (mvv (.int .i64 y32) rfl) ?_))
      obtain ⟨y36, h37, h18⟩ := bnd_some h18
      refine sv (rv_index el22 h0 rfl rfl h37) (sr (rw_loadC el22 h0 h37 rfl _ (Sm.refl _ _)) (sv (mvv (.int .i64 a1) rfl) ?_))
      obtain ⟨y38, h39, h18⟩ := bnd_some h18
      refine sc (dc_call (vs := [.int .i64 y36, .int .i64 a1]) can39 rfl ?_)
      refine (cmp_Less_int_w C.sb  h39).mono ?_
      rintro _ w40 ⟨S41, rfl, c42⟩
      refine ⟨_, rfl, ?_⟩
      replace h0 := h0.cx c42
      replace C := C.trans c42
      refine W.e (k35 _ _ ?_)
      rcases bif_some h18 with ⟨b43, h18⟩ | ⟨b43, h18⟩
      · refine cw_t rfl b43 (cw_region (sv (mvv (.int .i64 y32) rfl) ?_))
        obtain ⟨y44, h45, h18⟩ := pur_some h18
        refine sv (rv_add rfl rfl h45) (sv (asv (.int .i64 y44) rfl) (W.e ?_))
        obtain rfl := Option.some.inj h18
        exact ⟨_, rfl, ⟨_, C, ⟨rfl, rfl, rfl, rfl, rfl, trivial⟩, h0⟩⟩
      · refine cw_f rfl b43 (cw_region (sv (mvv (.int .i64 y32) rfl) (sv (asv (.int .i64 y32) rfl) (W.e ?_))))
        obtain rfl := Option.some.inj h18
        exact ⟨_, rfl, ⟨_, C, ⟨rfl, rfl, rfl, rfl, rfl, trivial⟩, h0⟩⟩
    · refine cw_f rfl b23 (cw_exit ?_)
      obtain rfl := Option.some.inj h18
      have h46 := congrArg some h17
      obtain rfl := Option.some.inj h46
      exact ⟨_, C, ⟨rfl, rfl, rfl, rfl, trivial⟩, h0⟩
  · rintro ρ w48 ⟨S47, C, h49, h0⟩
    refine h49.cw fun ρ => ?_
    clear h49
    obtain ⟨o50, h53, h⟩ := bnd_some h
    refine cw_seq' (fun ρ w1 => ∃ S1, Cx No S w S1 w1 ∧ Has ρ [(4, .int .i64 o50.1), (5, .bool o50.2)]) ?_ ?_
    · refine cw_region (sv (mvv (.int .i64 o7) rfl) (sv (mvv (.int .i64 o7) rfl) (sv (mvv (.int .i64 (a0.length : Int)) rfl) (sv (rv_lss rfl rfl) (sv (mvv (.bool (decide (o7 < (a0.length : Int)))) rfl) ?_)))))
      rcases bif_some h53 with ⟨b54, h53⟩ | ⟨b54, h53⟩
      · refine W.v (gy rfl rfl rfl b54) (mvv v0 rfl) (W.v (gy rfl rfl rfl b54) (mvv (.int .i64 o7) rfl) ?_)
        obtain ⟨y55, h56, h53⟩ := bnd_some h53
        refine W.v (gy rfl rfl rfl b54) (rv_index el22 h0 rfl rfl h56) (W.r (gy rfl rfl rfl b54) (rw_loadC el22 h0 h56 rfl _ (Sm.refl _ _)) (W.v (gy rfl rfl rfl b54) (mvv (.int .i64 a1) rfl) (W.v (gy rfl rfl rfl b54) (rv_eql rfl rfl) (W.v (gy rfl rfl rfl b54) (mvv (.bool (y55 == a1)) rfl) ?_))))
        rcases bif_some h53 with ⟨b57, h53⟩ | ⟨b57, h53⟩
        · refine W.n (gn rfl rfl rfl b57) (W.n (gn rfl rfl rfl b57) (W.n (gn rfl rfl rfl b57) (W.n (gn rfl rfl rfl b57) (W.n (gn rfl rfl rfl b57) (W.n (gn rfl rfl rfl b57) (W.n (gu rfl rfl rfl) (W.n (gu rfl rfl rfl) (W.n (gn rfl rfl rfl b57) (W.v (gy rfl rfl rfl b54) (ptk (.bool true) rfl b57 rfl) (sv (ptk (.bool true) rfl b54 rfl) (sv (asv (.int .i64 o7) rfl) ?_)))))))))))
          refine sv (asv (.bool true) rfl) (W.e ?_)
          obtain rfl := Option.some.inj h53
          exact ⟨_, C, ⟨rfl, rfl, trivial⟩⟩
        · refine W.v (gy rfl rfl rfl b57) (mvv v0 rfl) (W.v (gy rfl rfl rfl b57) (mvv (.int .i64 o7) rfl) ?_)
          obtain ⟨y58, h59, h53⟩ := bnd_some h53
          refine W.v (gy rfl rfl rfl b57) (rv_index el22 h0 rfl rfl h59) (W.r (gy rfl rfl rfl b57) (rw_loadC el22 h0 h59 rfl _ (Sm.refl _ _)) ?_)
          obtain ⟨y60, h61, h53⟩ := bnd_some h53
          refine W.c (gy rfl rfl rfl b57) (dc_call (vs := [.int .i64 y58]) can40 rfl ?_)
          refine (slices_isNaN_int_w C.sb  h61).mono ?_
          rintro _ w62 ⟨S63, rfl, c64⟩
          refine ⟨_, rfl, ?_⟩
          replace C := C.trans c64
          refine W.v (gy rfl rfl rfl b57) (mvv (.bool y60) rfl) ?_
          rcases bif_some h53 with ⟨b65, h53⟩ | ⟨b65, h53⟩
          · refine W.v (gy rfl rfl rfl b65) (mvv (.int .i64 a1) rfl) ?_
            obtain ⟨y66, h67, h53⟩ := bnd_some h53
            refine W.c (gy rfl rfl rfl b65) (dc_call (vs := [.int .i64 a1]) can40 rfl ?_)
            refine (slices_isNaN_int_w C.sb  h67).mono ?_
            rintro _ w68 ⟨S69, rfl, c70⟩
            refine ⟨_, rfl, ?_⟩
            replace C := C.trans c70
            refine W.v (gy rfl rfl rfl b57) (ptk (.bool y66) rfl b65 rfl) (W.v (gy rfl rfl rfl b54) (pfk (.bool y66) rfl b57 rfl) (sv (ptk (.bool y66) rfl b54 rfl) (sv (asv (.int .i64 o7) rfl) (sv (asv (.bool y66) rfl) (W.e ?_)))))
            obtain rfl := Option.some.inj h53
            exact ⟨_, C, ⟨rfl, rfl, trivial⟩⟩
          · refine W.n (gn rfl rfl rfl b65) (W.n (gn rfl rfl rfl b65) (W.v (gy rfl rfl rfl b57) (pfk (.bool false) rfl b65 rfl) (W.v (gy rfl rfl rfl b54) (pfk (.bool false) rfl b57 rfl) (sv (ptk (.bool false) rfl b54 rfl) (sv (asv (.int .i64 o7) rfl) (sv (asv (.bool false) rfl) (W.e ?_)))))))
            obtain rfl := Option.some.inj h53
            exact ⟨_, C, ⟨rfl, rfl, trivial⟩⟩
      · refine W.n (gn rfl rfl rfl b54) (W.n (gn rfl rfl rfl b54) (W.n (gn rfl rfl rfl b54) (W.n (gn rfl rfl rfl b54) (W.n (gn rfl rfl rfl b54) (W.n (gn rfl rfl rfl b54) (W.n (gn rfl rfl rfl b54) (W.n (gu rfl rfl rfl) (W.n (gu rfl rfl rfl) (W.n (gu rfl rfl rfl) (W.n (gu rfl rfl rfl) (W.n (gu rfl rfl rfl) ?_)))))))))))
        refine W.n (gu rfl rfl rfl) (W.n (gu rfl rfl rfl) (W.n (gu rfl rfl rfl) (W.n (gu rfl rfl rfl) (W.n (gn rfl rfl rfl b54) (sv (pfk (.bool false) rfl b54 rfl) (sv (asv (.int .i64 o7) rfl) (sv (asv (.bool false) rfl) (W.e ?_))))))))
        obtain rfl := Option.some.inj h53
        exact ⟨_, C, ⟨rfl, rfl, trivial⟩⟩
    · rintro ρ w72 ⟨S71, C, h73⟩
      refine h73.cw fun ρ => ?_
      clear h73
      refine cw_ret ?_
      obtain rfl := Option.some.inj h
      exact ⟨_, rfl, _, rfl, C⟩

noncomputable def post_Has (a0 : List Int) (a1 : Int) : Option Bool :=
  ((post_Right a0).bind fun y7 => (bif (!y7) then some false else ((slices_BinarySearch_int_int a0 a1).bind fun y17 => some y17.2)))
set_option maxRecDepth 100000 in
set_option maxHeartbeats 4000000 in
theorem post_Has_w {S : Nat → Prop} {w : World} {a0 : List Int} {a1 : Int} {v0 : Value} {r : Bool} (hS : Sb S w) (h0 : Sl (kSl (kI .i64)) S w v0 a0) (h : post_Has a0 a1 = some r) :
    Calls Try.prog 27 (List.toArray [v0, .int .i64 a1]) w fun e w1 => ∃ S1, e = .returned (.bool r) ∧ Cx No S w S1 w1 := by
  refine enter Try.func27 rfl (by kernel_rfl) rfl ?_
  have C := Cx.refl (F := No) hS
  unfold post_Has at h
  refine cw_seq fun K1 k2 => ?_
  refine cw_region (sv (asv (.bool false) rfl) (W.e (k2 _ _ ?_)))
  refine cw_seq fun K3 k4 => ?_
  refine cw_seq fun K5 k6 => ?_
  refine cw_region (sv (mvv v0 rfl) ?_)
  obtain ⟨y7, h8, h⟩ := bnd_some h
  refine sc (dc_call (vs := [v0]) can14 rfl ?_)
  refine (post_Right_w C.sb h0 h8).mono ?_
  rintro _ w9 ⟨S10, rfl, c11⟩
  refine ⟨_, rfl, ?_⟩
  replace h0 := h0.cx c11
  replace C := C.trans c11
  refine sv (rv_not rfl) (W.e (k6 _ _ ?_))
  rcases bif_some h with ⟨b12, h⟩ | ⟨b12, h⟩
  · refine cw_t rfl b12 ?_
    refine cw_seq fun K13 k14 => ?_
    refine cw_region (sv (asv (.bool false) rfl) (W.e (k14 _ _ (cw_ret ?_))))
    obtain rfl := Option.some.inj h
    exact ⟨_, rfl, _, rfl, C⟩
  · refine cw_f rfl b12 (cw_skip (k4 _ _ ?_))
    refine cw_seq fun K15 k16 => ?_
    refine cw_region (sv (mvv v0 rfl) (sv (mvv (.int .i64 a1) rfl) ?_))
    obtain ⟨y17, h18, h⟩ := bnd_some h
    refine sc (dc_call (vs := [v0, .int .i64 a1]) can36 rfl ?_)
    refine (slices_BinarySearch_int_int_w C.sb h0 h18).mono ?_
    rintro _ w19 ⟨S20, rfl, c21⟩
    refine ⟨_, rfl, ?_⟩
    replace C := C.trans c21
    refine sv (mvv (.tuple (List.toArray [.int .i64 y17.1, .bool y17.2])) rfl) (sv (rv_extract rfl rfl) (sv (rv_extract rfl rfl) (sv (asv (.int .i64 y17.1) rfl) (sv (asv (.bool y17.2) rfl) (W.e (k16 _ _ ?_))))))
    refine cw_seq fun K22 k23 => ?_
    refine cw_region (sv (mvv (.bool y17.2) rfl) (sv (asv (.bool y17.2) rfl) (W.e (k23 _ _ (cw_ret ?_)))))
    obtain rfl := Option.some.inj h
    exact ⟨_, rfl, _, rfl, C⟩

noncomputable def marigraphref06_Has (a0 : List Int) (a1 : Int) : Option Bool :=
  (((marigraphref06_Right a0).bind fun y7 => (bif y7 then ((marigraphref06_in a0 a1).bind fun y13 => some y13) else some false)).bind fun o3 => some o3)
set_option maxRecDepth 100000 in
set_option maxHeartbeats 4000000 in
theorem marigraphref06_Has_w {S : Nat → Prop} {w : World} {a0 : List Int} {a1 : Int} {v0 : Value} {r : Bool} (hS : Sb S w) (h0 : Sl (kSl (kI .i64)) S w v0 a0) (h : marigraphref06_Has a0 a1 = some r) :
    Calls Try.prog 28 (List.toArray [v0, .int .i64 a1]) w fun e w1 => ∃ S1, e = .returned (.bool r) ∧ Cx No S w S1 w1 := by
  refine enter Try.func28 rfl (by kernel_rfl) rfl ?_
  have C := Cx.refl (F := No) hS
  unfold marigraphref06_Has at h
  refine cw_seq fun K1 k2 => ?_
  refine cw_region (sv (asv (.bool false) rfl) (W.e (k2 _ _ ?_)))
  obtain ⟨o3, h6, h⟩ := bnd_some h
  refine cw_seq' (fun ρ w1 => ∃ S1, Cx No S w S1 w1 ∧ Has ρ [(4, .bool o3)]) ?_ ?_
  · refine cw_region (sv (mvv v0 rfl) ?_)
    obtain ⟨y7, h8, h6⟩ := bnd_some h6
    refine sc (dc_call (vs := [v0]) can26 rfl ?_)
    refine (marigraphref06_Right_w C.sb h0 h8).mono ?_
    rintro _ w9 ⟨S10, rfl, c11⟩
    refine ⟨_, rfl, ?_⟩
    replace h0 := h0.cx c11
    replace C := C.trans c11
    refine sv (mvv (.bool y7) rfl) ?_
    rcases bif_some h6 with ⟨b12, h6⟩ | ⟨b12, h6⟩
    · refine W.v (gy rfl rfl rfl b12) (mvv v0 rfl) (W.v (gy rfl rfl rfl b12) (mvv (.int .i64 a1) rfl) ?_)
      obtain ⟨y13, h14, h6⟩ := bnd_some h6
      refine W.c (gy rfl rfl rfl b12) (dc_call (vs := [v0, .int .i64 a1]) can34 rfl ?_)
      refine (marigraphref06_in_w C.sb h0 h14).mono ?_
      rintro _ w15 ⟨S16, rfl, c17⟩
      refine ⟨_, rfl, ?_⟩
      replace C := C.trans c17
      refine sv (ptk (.bool y13) rfl b12 rfl) (sv (asv (.bool y13) rfl) (W.e ?_))
      obtain rfl := Option.some.inj h6
      exact ⟨_, C, ⟨rfl, trivial⟩⟩
    · refine W.n (gn rfl rfl rfl b12) (W.n (gn rfl rfl rfl b12) (W.n (gn rfl rfl rfl b12) (sv (pfk (.bool false) rfl b12 rfl) (sv (asv (.bool false) rfl) (W.e ?_)))))
      obtain rfl := Option.some.inj h6
      exact ⟨_, C, ⟨rfl, trivial⟩⟩
  · rintro ρ w19 ⟨S18, C, h20⟩
    refine h20.cw fun ρ => ?_
    clear h20
    refine cw_ret ?_
    obtain rfl := Option.some.inj h
    exact ⟨_, rfl, _, rfl, C⟩

noncomputable def marigraphlaw06_PostOf (a0 : List Int) (a1 : Int) : Option Bool :=
  ((marigraphlaw06_few a0).bind fun y5 => ((post_Of y5).bind fun y14 => ((marigraphref06_Of y5).bind fun y23 => (((marigraphlaw06_shown).bind fun y34 => (bif y34 then ((post_Right y5).bind fun y40 => ((marigraphref06_Right y5).bind fun y45 => (bif (y40 == y45) then ((post_Has y5 a1).bind fun y51 => ((marigraphref06_Has y5 a1).bind fun y56 => (bif (y51 == y56) then ((marigraphref04_Ints y14.1 y23.1).bind fun y62 => (bif y62 then some (y14.2 == y23.2) else some false)) else some false))) else some false))) else some false)).bind fun o30 => some o30))))
set_option maxRecDepth 100000 in
set_option maxHeartbeats 4000000 in
theorem marigraphlaw06_PostOf_w {S : Nat → Prop} {w : World} {a0 : List Int} {a1 : Int} {v0 : Value} {r : Bool} (hS : Sb S w) (h0 : Sl (kSl (kI .i64)) S w v0 a0) (h : marigraphlaw06_PostOf a0 a1 = some r) :
    Calls Try.prog 8 (List.toArray [v0, .int .i64 a1]) w fun e w1 => ∃ S1, e = .returned (.bool r) ∧ Cx No S w S1 w1 := by
  refine enter Try.func8 rfl (by kernel_rfl) rfl ?_
  have C := Cx.refl (F := No) hS
  unfold marigraphlaw06_PostOf at h
  refine cw_seq fun K1 k2 => ?_
  refine cw_region (sv (asv (.bool false) rfl) (W.e (k2 _ _ ?_)))
  refine cw_seq fun K3 k4 => ?_
  refine cw_region (sv (mvv v0 rfl) ?_)
  obtain ⟨y5, h6, h⟩ := bnd_some h
  refine sc (dc_call (vs := [v0]) can19 rfl ?_)
  refine (marigraphlaw06_few_w C.sb h0 h6).mono ?_
  rintro _ w7 ⟨S8, v10, rfl, c9, h11⟩
  refine ⟨_, rfl, ?_⟩
  replace C := C.trans c9
  refine sv (asv v10 rfl) (W.e (k4 _ _ ?_))
  refine cw_seq fun K12 k13 => ?_
  refine cw_region (sv (mvv v10 rfl) ?_)
  obtain ⟨y14, h15, h⟩ := bnd_some h
  refine sc (dc_call (vs := [v10]) can12 rfl ?_)
  refine (post_Of_w C.sb h11 h15).mono ?_
  rintro _ w16 ⟨S17, v19, rfl, c18, h20⟩
  refine ⟨_, rfl, ?_⟩
  replace h11 := h11.cx c18
  replace C := C.trans c18
  refine sv (mvv (.tuple (List.toArray [v19, .int .i64 y14.2])) rfl) (sv (rv_extract rfl rfl) (sv (rv_extract rfl rfl) (sv (asv v19 rfl) (sv (asv (.int .i64 y14.2) rfl) (W.e (k13 _ _ ?_))))))
  refine cw_seq fun K21 k22 => ?_
  refine cw_region (sv (mvv v10 rfl) ?_)
  obtain ⟨y23, h24, h⟩ := bnd_some h
  refine sc (dc_call (vs := [v10]) can25 rfl ?_)
  refine (marigraphref06_Of_w C.sb h11 h24).mono ?_
  rintro _ w25 ⟨S26, v28, rfl, c27, h29⟩
  refine ⟨_, rfl, ?_⟩
  replace h11 := h11.cx c27
  replace h20 := h20.cx c27
  replace C := C.trans c27
  refine sv (mvv (.tuple (List.toArray [v28, .int .i64 y23.2])) rfl) (sv (rv_extract rfl rfl) (sv (rv_extract rfl rfl) (sv (asv v28 rfl) (sv (asv (.int .i64 y23.2) rfl) (W.e (k22 _ _ ?_))))))
  obtain ⟨o30, h33, h⟩ := bnd_some h
  refine cw_seq' (fun ρ w1 => ∃ S1, Cx No S w S1 w1 ∧ Has ρ [(4, .bool o30)]) ?_ ?_
  · refine cw_region ?_
    obtain ⟨y34, h35, h33⟩ := bnd_some h33
    refine sc (dc_call (vs := []) can11 rfl ?_)
    refine (marigraphlaw06_shown_w C.sb  h35).mono ?_
    rintro _ w36 ⟨S37, rfl, c38⟩
    refine ⟨_, rfl, ?_⟩
    replace h11 := h11.cx c38
    replace h20 := h20.cx c38
    replace h29 := h29.cx c38
    replace C := C.trans c38
    refine sv (mvv (.bool y34) rfl) ?_
    rcases bif_some h33 with ⟨b39, h33⟩ | ⟨b39, h33⟩
    · refine W.v (gy rfl rfl rfl b39) (mvv v10 rfl) ?_
      obtain ⟨y40, h41, h33⟩ := bnd_some h33
      refine W.c (gy rfl rfl rfl b39) (dc_call (vs := [v10]) can14 rfl ?_)
      refine (post_Right_w C.sb h11 h41).mono ?_
      rintro _ w42 ⟨S43, rfl, c44⟩
      refine ⟨_, rfl, ?_⟩
      replace h11 := h11.cx c44
      replace h20 := h20.cx c44
      replace h29 := h29.cx c44
      replace C := C.trans c44
      refine W.v (gy rfl rfl rfl b39) (mvv v10 rfl) ?_
      obtain ⟨y45, h46, h33⟩ := bnd_some h33
      refine W.c (gy rfl rfl rfl b39) (dc_call (vs := [v10]) can26 rfl ?_)
      refine (marigraphref06_Right_w C.sb h11 h46).mono ?_
      rintro _ w47 ⟨S48, rfl, c49⟩
      refine ⟨_, rfl, ?_⟩
      replace h11 := h11.cx c49
      replace h20 := h20.cx c49
      replace h29 := h29.cx c49
      replace C := C.trans c49
      refine W.v (gy rfl rfl rfl b39) (rv_beql Try.underlying4 rfl rfl) (sv (ptk (.bool (y40 == y45)) rfl b39 rfl) (sv (mvv (.bool (y40 == y45)) rfl) ?_))
      rcases bif_some h33 with ⟨b50, h33⟩ | ⟨b50, h33⟩
      · refine W.v (gy rfl rfl rfl b50) (mvv v10 rfl) (W.v (gy rfl rfl rfl b50) (mvv (.int .i64 a1) rfl) ?_)
        obtain ⟨y51, h52, h33⟩ := bnd_some h33
        refine W.c (gy rfl rfl rfl b50) (dc_call (vs := [v10, .int .i64 a1]) can27 rfl ?_)
        refine (post_Has_w C.sb h11 h52).mono ?_
        rintro _ w53 ⟨S54, rfl, c55⟩
        refine ⟨_, rfl, ?_⟩
        replace h11 := h11.cx c55
        replace h20 := h20.cx c55
        replace h29 := h29.cx c55
        replace C := C.trans c55
        refine W.v (gy rfl rfl rfl b50) (mvv v10 rfl) (W.v (gy rfl rfl rfl b50) (mvv (.int .i64 a1) rfl) ?_)
        obtain ⟨y56, h57, h33⟩ := bnd_some h33
        refine W.c (gy rfl rfl rfl b50) (dc_call (vs := [v10, .int .i64 a1]) can28 rfl ?_)
        refine (marigraphref06_Has_w C.sb h11 h57).mono ?_
        rintro _ w58 ⟨S59, rfl, c60⟩
        refine ⟨_, rfl, ?_⟩
        replace h20 := h20.cx c60
        replace h29 := h29.cx c60
        replace C := C.trans c60
        refine W.v (gy rfl rfl rfl b50) (rv_beql Try.underlying4 rfl rfl) (sv (ptk (.bool (y51 == y56)) rfl b50 rfl) (sv (mvv (.bool (y51 == y56)) rfl) ?_))
        rcases bif_some h33 with ⟨b61, h33⟩ | ⟨b61, h33⟩
        · refine W.v (gy rfl rfl rfl b61) (mvv v19 rfl) (W.v (gy rfl rfl rfl b61) (mvv v28 rfl) ?_)
          obtain ⟨y62, h63, h33⟩ := bnd_some h33
          refine W.c (gy rfl rfl rfl b61) (dc_call (vs := [v19, v28]) can13 rfl ?_)
          refine (marigraphref04_Ints_w C.sb h20 h29 h63).mono ?_
          rintro _ w64 ⟨S65, rfl, c66⟩
          refine ⟨_, rfl, ?_⟩
          replace C := C.trans c66
          refine sv (ptk (.bool y62) rfl b61 rfl) (sv (mvv (.bool y62) rfl) ?_)
          rcases bif_some h33 with ⟨b67, h33⟩ | ⟨b67, h33⟩
          · refine W.v (gy rfl rfl rfl b67) (mvv (.int .i64 y14.2) rfl) (W.v (gy rfl rfl rfl b67) (mvv (.int .i64 y23.2) rfl) (W.v (gy rfl rfl rfl b67) (rv_eql rfl rfl) (sv (ptk (.bool (y14.2 == y23.2)) rfl b67 rfl) (sv (asv (.bool (y14.2 == y23.2)) rfl) (W.e ?_)))))
            obtain rfl := Option.some.inj h33
            exact ⟨_, C, ⟨rfl, trivial⟩⟩
          · refine W.n (gn rfl rfl rfl b67) (W.n (gn rfl rfl rfl b67) (W.n (gn rfl rfl rfl b67) (sv (pfk (.bool false) rfl b67 rfl) (sv (asv (.bool false) rfl) (W.e ?_)))))
            obtain rfl := Option.some.inj h33
            exact ⟨_, C, ⟨rfl, trivial⟩⟩
        · refine W.n (gn rfl rfl rfl b61) (W.n (gn rfl rfl rfl b61) (W.n (gn rfl rfl rfl b61) (sv (pfk (.bool false) rfl b61 rfl) (sv (mvv (.bool false) rfl) (W.n (gn rfl rfl rfl rfl) (W.n (gn rfl rfl rfl rfl) (W.n (gn rfl rfl rfl rfl) (sv (pfk (.bool false) rfl rfl rfl) (sv (asv (.bool false) rfl) (W.e ?_))))))))))
          obtain rfl := Option.some.inj h33
          exact ⟨_, C, ⟨rfl, trivial⟩⟩
      · refine W.n (gn rfl rfl rfl b50) (W.n (gn rfl rfl rfl b50) (W.n (gn rfl rfl rfl b50) (W.n (gn rfl rfl rfl b50) (W.n (gn rfl rfl rfl b50) (W.n (gn rfl rfl rfl b50) (W.n (gn rfl rfl rfl b50) (sv (pfk (.bool false) rfl b50 rfl) (sv (mvv (.bool false) rfl) (W.n (gn rfl rfl rfl rfl) (W.n (gn rfl rfl rfl rfl) (W.n (gn rfl rfl rfl rfl) ?_)))))))))))
        refine sv (pfk (.bool false) rfl rfl rfl) (sv (mvv (.bool false) rfl) (W.n (gn rfl rfl rfl rfl) (W.n (gn rfl rfl rfl rfl) (W.n (gn rfl rfl rfl rfl) (sv (pfk (.bool false) rfl rfl rfl) (sv (asv (.bool false) rfl) (W.e ?_)))))))
        obtain rfl := Option.some.inj h33
        exact ⟨_, C, ⟨rfl, trivial⟩⟩
    · refine W.n (gn rfl rfl rfl b39) (W.n (gn rfl rfl rfl b39) (W.n (gn rfl rfl rfl b39) (W.n (gn rfl rfl rfl b39) (W.n (gn rfl rfl rfl b39) (sv (pfk (.bool false) rfl b39 rfl) (sv (mvv (.bool false) rfl) (W.n (gn rfl rfl rfl rfl) (W.n (gn rfl rfl rfl rfl) (W.n (gn rfl rfl rfl rfl) (W.n (gn rfl rfl rfl rfl) (W.n (gn rfl rfl rfl rfl) ?_)))))))))))
      refine W.n (gn rfl rfl rfl rfl) (W.n (gn rfl rfl rfl rfl) (sv (pfk (.bool false) rfl rfl rfl) (sv (mvv (.bool false) rfl) (W.n (gn rfl rfl rfl rfl) (W.n (gn rfl rfl rfl rfl) (W.n (gn rfl rfl rfl rfl) (sv (pfk (.bool false) rfl rfl rfl) (sv (mvv (.bool false) rfl) (W.n (gn rfl rfl rfl rfl) (W.n (gn rfl rfl rfl rfl) (W.n (gn rfl rfl rfl rfl) ?_)))))))))))
      refine sv (pfk (.bool false) rfl rfl rfl) (sv (asv (.bool false) rfl) (W.e ?_))
      obtain rfl := Option.some.inj h33
      exact ⟨_, C, ⟨rfl, trivial⟩⟩
  · rintro ρ w69 ⟨S68, C, h70⟩
    refine h70.cw fun ρ => ?_
    clear h70
    refine cw_ret ?_
    obtain rfl := Option.some.inj h
    exact ⟨_, rfl, _, rfl, C⟩

end Go.Proofs.Ytdoidjpeaakfiaa
