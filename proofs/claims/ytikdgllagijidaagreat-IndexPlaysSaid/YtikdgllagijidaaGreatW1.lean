/- What each function computes, and that the program computes it (part 1). Printed by gen.py, a program of this session. -/
import Derived.Test.YtikdgllagijidaaGreatW0
set_option linter.unusedVariables false
namespace Go.Proofs.YtikdgllagijidaaGreat
open Go Go.Mg
noncomputable def index_Index_Add (a0 : Option index_Index) (a1 : List api_Label) : Option (Int × Int × (Option index_Index)) :=
  (bif a0.isNone then some ((0 : Int), (2 : Int), a0) else ((index_key a1).bind fun y12 => (bif (y12.2.2 != (0 : Int)) then some ((0 : Int), y12.2.2, a0) else ((a0).bind fun y30 => (bif (mget y12.2.1 y30.ids).isSome then some (((mget y12.2.1 y30.ids).getD (0 : Int)), (0 : Int), some y30) else (((bif (decide ((200 : Int) ≤ (y30.series.length : Int))) then some true else some (decide ((4096 : Int) ≤ y30.given))).bind fun o49 => (bif o49 then some (.inr ((0 : Int), (4 : Int), some y30)) else some (.inl ()))).bind (Sum.elim (fun o45n => (pur (IntKind.i64.wrap (y30.given + (1 : Int))) fun y71 => (pur ({ y30 with given := y71 } : index_Index) fun y73 => ((index_Index_put y73 y30.given y12.1 y12.2.1).bind fun y85 => some (y30.given, (0 : Int), some y85))))) (fun q => some q))))))))
set_option maxRecDepth 100000 in
set_option maxHeartbeats 4000000 in
theorem index_Index_Add_w {S : Nat → Prop} {w : World} {a0 : Option index_Index} {a1 : List api_Label} {v0 v1 : Value} {cs0 : List Value} {fp0 : List Nat} {r : Int × Int × (Option index_Index)} (hS : Sb S w) (h0 : Obo 61 index_Index.fs S w v0 a0 cs0 fp0) (h1 : Sl (kSl api_Label.k) S w v1 a1) (h : index_Index_Add a0 a1 = some r) :
    Calls Tryz.prog 14 (List.toArray [v0, v1]) w fun e w1 => ∃ S1 us_0 up_0, e = .returned (.tuple (List.toArray [.int .i64 r.1, .int .i64 r.2.1])) ∧ Cx (fun b => b ∈ fp0) S w S1 w1 ∧ Obo 61 index_Index.fs S1 w1 v0 r.2.2 us_0 up_0 ∧ (∀ b, b ∈ up_0 → b ∈ fp0 ∨ w.heap.size ≤ b) := by
  refine enter Tryz.func14 rfl (by kernel_rfl) rfl ?_
  have C := Cx.refl (F := (fun b => b ∈ fp0)) hS
  unfold index_Index_Add at h
  have hs0 : ∀ b, b ∈ fp0 → b ∈ fp0 ∨ w.heap.size ≤ b := fun b hb => .inl hb
  have hl0 : ∀ b ∈ fp0, b < w.heap.size := fun b hb => (h0.lt b hb).1
  refine cw_seq fun K1 k2 => ?_
  refine cw_region (sv (asv (.int .i64 0) rfl) (sv (asv (.int .i64 0) rfl) (W.e (k2 _ _ ?_))))
  refine cw_seq fun K3 k4 => ?_
  refine cw_seq fun K5 k6 => ?_
  refine cw_region (sv (mvv v0 rfl) (sv (rv_nileq Tryz.underlying24 rfl rfl h0.ne) (W.e (k6 _ _ ?_))))
  rcases bif_some h with ⟨b7, h⟩ | ⟨b7, h⟩
  · refine cw_t rfl b7 ?_
    refine cw_seq fun K8 k9 => ?_
    refine cw_region (sv (asv (.int .i64 0) rfl) (sv (asv (.int .i64 2) rfl) (W.e (k9 _ _ (cw_ret ?_)))))
    obtain rfl := Option.some.inj h
    exact ⟨_, rfl, _, _, _, rfl, C, h0, hs0⟩
  · refine cw_f rfl b7 (cw_skip (k4 _ _ ?_))
    refine cw_seq fun K10 k11 => ?_
    refine cw_region (sv (mvv v1 rfl) ?_)
    obtain ⟨y12, h13, h⟩ := bnd_some h
    refine sc (dc_call (vs := [v1]) can43 rfl ?_)
    refine (index_key_w C.sb h1 h13).mono ?_
    rintro _ w14 ⟨S15, v17, rfl, c16, h18⟩
    refine ⟨_, rfl, ?_⟩
    replace h0 := h0.cx c16
    replace C := C.trans c16
    refine sv (mvv (.tuple (List.toArray [v17, .string y12.2.1, .int .i64 y12.2.2])) rfl) (sv (rv_extract rfl rfl) (sv (rv_extract rfl rfl) (sv (rv_extract rfl rfl) (sv (asv v17 rfl) (sv (asv (.string y12.2.1) rfl) (sv (asv (.int .i64 y12.2.2) rfl) (W.e (k11 _ _ ?_))))))))
    refine cw_seq fun K19 k20 => ?_
    refine cw_seq fun K21 k22 => ?_
    refine cw_region (sv (mvv (.int .i64 y12.2.2) rfl) (sv (rv_neq rfl rfl) (W.e (k22 _ _ ?_))))
    rcases bif_some h with ⟨b23, h⟩ | ⟨b23, h⟩
    · refine cw_t rfl b23 ?_
      refine cw_seq fun K24 k25 => ?_
      refine cw_region (sv (mvv (.int .i64 y12.2.2) rfl) (sv (asv (.int .i64 0) rfl) (sv (asv (.int .i64 y12.2.2) rfl) (W.e (k25 _ _ (cw_ret ?_))))))
      obtain rfl := Option.some.inj h
      exact ⟨_, rfl, _, _, _, rfl, C, h0, hs0⟩
    · refine cw_f rfl b23 (cw_skip (k20 _ _ ?_))
      refine cw_seq fun K26 k27 => ?_
      refine cw_seq fun K28 k29 => ?_
      refine cw_region (sv (mvv v0 rfl) ?_)
      obtain ⟨y30, h31, h⟩ := bnd_some h
      have h32 := h0
      rw [h31] at h32
      replace h32 : Ob 61 (index_Index.fs y30) _ _ _ _ _ := h32
      refine sv (rv_nilcheck rfl h32.ptr) (sv (rv_fieldAddr (b := pb v0) (o := 0) st61 rfl h32.ptr) ?_)
      obtain ⟨c33, h34⟩ := h32.at (i := 1) rfl
      refine sr (rw_ofield (i := 1) (c := c33) h32 ag57 h34 rfl) (sv (mvv (.string y12.2.1) rfl) ?_)
      obtain ⟨_, h35, h36⟩ := Ob.rep h32 (i := 1) rfl h34
      obtain ⟨v37, h38, h39⟩ := rep_look (P := Tryz.prog) (tm := 57) (te := 3) (y0 := (0 : Int)) h35 Tryz.underlying57 zv3 (sl_sc.2 rfl) y12.2.1
      obtain rfl := sl_sc.1 h38
      refine sr ((h39 (Sm.refl _ _) rfl rfl).2) (sv (mvv (.tuple (List.toArray [.int .i64 ((mget y12.2.1 y30.ids).getD (0 : Int)), .bool (mget y12.2.1 y30.ids).isSome])) rfl) (sv (rv_extract rfl rfl) (sv (rv_extract rfl rfl) (sv (asv (.int .i64 ((mget y12.2.1 y30.ids).getD (0 : Int))) rfl) (sv (asv (.bool (mget y12.2.1 y30.ids).isSome) rfl) (W.e (k29 _ _ ?_)))))))
      refine cw_seq fun K40 k41 => ?_
      refine cw_region (sv (mvv (.bool (mget y12.2.1 y30.ids).isSome) rfl) (W.e (k41 _ _ ?_)))
      rcases bif_some h with ⟨b42, h⟩ | ⟨b42, h⟩
      · refine cw_t rfl b42 ?_
        refine cw_seq fun K43 k44 => ?_
        refine cw_region (sv (mvv (.int .i64 ((mget y12.2.1 y30.ids).getD (0 : Int))) rfl) (sv (asv (.int .i64 ((mget y12.2.1 y30.ids).getD (0 : Int))) rfl) (sv (asv (.int .i64 0) rfl) (W.e (k44 _ _ (cw_ret ?_))))))
        obtain rfl := Option.some.inj h
        exact ⟨_, rfl, _, _, _, rfl, C, h32, hs0⟩
      · refine cw_f rfl b42 (cw_skip (k27 _ _ ?_))
        obtain ⟨o45, h48, h⟩ := bnds_some h
        refine cw_seq' (fun ρ w1 => ∃ o45n, o45 = (.inl o45n) ∧ ∃ S1, Cx (fun b => b ∈ fp0) S w S1 w1 ∧ Has ρ [(0, v0), (6, v17), (7, .string y12.2.1)] ∧ Sl (kSl api_Label.k) S1 w1 v17 y12.1 ∧ Obo 61 index_Index.fs S1 w1 v0 a0 cs0 fp0 ∧ Ob 61 (index_Index.fs y30) S1 w1 v0 cs0 fp0) ?_ ?_
        · obtain ⟨o49, h52, h48⟩ := bnd_some h48
          refine cw_seq' (fun ρ w1 => ∃ S1, Cx (fun b => b ∈ fp0) S w S1 w1 ∧ Has ρ [(0, v0), (6, v17), (7, .string y12.2.1), (46, .bool o49)] ∧ Sl (kSl api_Label.k) S1 w1 v17 y12.1 ∧ Obo 61 index_Index.fs S1 w1 v0 a0 cs0 fp0 ∧ Ob 61 (index_Index.fs y30) S1 w1 v0 cs0 fp0) ?_ ?_
          · refine cw_region (sv (mvv v0 rfl) (sv (rv_nilcheck rfl h32.ptr) (sv (rv_fieldAddr (b := pb v0) (o := 0) st61 rfl h32.ptr) ?_)))
            obtain ⟨c53, h54⟩ := h32.at (i := 0) rfl
            refine sr (rw_ofield (i := 0) (c := c53) h32 ag56 h54 rfl) ?_
            obtain ⟨_, h55, h56⟩ := Ob.rep h32 (i := 0) rfl h54
            refine sr (rep_mlen h55 Tryz.underlying56 (Sm.refl _ _) rfl) (sv (rv_geq rfl rfl) (sv (mvv (.bool (decide ((200 : Int) ≤ (y30.series.length : Int)))) rfl) ?_))
            rcases bif_some h52 with ⟨b57, h52⟩ | ⟨b57, h52⟩
            · refine W.n (gn rfl rfl rfl b57) (W.n (gn rfl rfl rfl b57) (W.n (gn rfl rfl rfl b57) (W.n (gn rfl rfl rfl b57) (W.n (gn rfl rfl rfl b57) (sv (ptk (.bool true) rfl b57 rfl) (W.e ?_))))))
              obtain rfl := Option.some.inj h52
              exact ⟨_, C, ⟨rfl, rfl, rfl, rfl, trivial⟩, h18, h0, h32⟩
            · refine W.v (gy rfl rfl rfl b57) (mvv v0 rfl) (W.v (gy rfl rfl rfl b57) (rv_nilcheck rfl h32.ptr) (W.v (gy rfl rfl rfl b57) (rv_fieldAddr (b := pb v0) (o := 0) st61 rfl h32.ptr) (W.r (gy rfl rfl rfl b57) (rw_ofield (i := 4) (c := .int .i64 y30.given) h32 ag3 (h32.sc (i := 4) rfl) rfl) (W.v (gy rfl rfl rfl b57) (rv_geq rfl rfl) (sv (pfk (.bool (decide ((4096 : Int) ≤ y30.given))) rfl b57 rfl) (W.e ?_))))))
              obtain rfl := Option.some.inj h52
              exact ⟨_, C, ⟨rfl, rfl, rfl, rfl, trivial⟩, h18, h0, h32⟩
          · rintro ρ w59 ⟨S58, C, h60, h18, h0, h32⟩
            refine h60.cw fun ρ => ?_
            clear h60
            rcases bif_some h48 with ⟨b61, h48⟩ | ⟨b61, h48⟩
            · refine cw_t rfl b61 ?_
              refine cw_seq fun K62 k63 => ?_
              refine cw_region (sv (asv (.int .i64 0) rfl) (sv (asv (.int .i64 4) rfl) (W.e (k63 _ _ (cw_ret ?_)))))
              obtain rfl := Option.some.inj h48
              replace h := h.2 _ rfl
              obtain rfl := Option.some.inj h
              exact ⟨_, rfl, _, _, _, rfl, C, h32, hs0⟩
            · refine cw_f rfl b61 (cw_skip ?_)
              obtain rfl := Option.some.inj h48
              exact ⟨_, rfl, ⟨_, C, ⟨rfl, rfl, rfl, trivial⟩, h18, h0, h32⟩⟩
        · rintro ρ w65 ⟨o45n, rfl, ⟨S64, C, h66, h18, h0, h32⟩⟩
          replace h := h.1 _ rfl
          refine h66.cw fun ρ => ?_
          clear h66
          refine cw_seq fun K67 k68 => ?_
          refine cw_region (sv (mvv v0 rfl) (sv (rv_nilcheck rfl h32.ptr) (sv (rv_fieldAddr (b := pb v0) (o := 0) st61 rfl h32.ptr) (sr (rw_ofield (i := 4) (c := .int .i64 y30.given) h32 ag3 (h32.sc (i := 4) rfl) rfl) (sv (asv (.int .i64 y30.given) rfl) (W.e (k68 _ _ ?_)))))))
          refine cw_seq fun K69 k70 => ?_
          refine cw_region (sv (mvv v0 rfl) (sv (rv_nilcheck rfl h32.ptr) (sv (rv_fieldAddr (b := pb v0) (o := 0) st61 rfl h32.ptr) (sr (rw_ofield (i := 4) (c := .int .i64 y30.given) h32 ag3 (h32.sc (i := 4) rfl) rfl) ?_))))
          obtain ⟨y71, h72, h⟩ := pur_some h
          refine sv (rv_add rfl rfl h72) (sv (rv_nilcheck rfl h32.ptr) (sv (rv_fieldAddr (b := pb v0) (o := 0) st61 rfl h32.ptr) ?_))
          obtain ⟨y73, h74, h⟩ := pur_some h
          have h79 : ∀ b, b ∈ fp0 → ¬ S64 b := fun b hb => (h32.lt b hb).2
          refine sc (dc_ofield (i := 4) (k := (kI .i64)) (h1 := rfl) (a' := y71) h32 rfl ag3 rfl rfl (rep_sc.2 rfl) fun w75 h76 u77 => ?_)
          replace h76 : Ob 61 (index_Index.fs ({ y30 with given := y71 } : index_Index)) S64 w75 v0 (cs0.set 4 (.int .i64 y71)) fp0 := h76
          rw [h74] at h76
          obtain ⟨cs80, h81⟩ : ∃ cs, cs = cs0.set 4 (.int .i64 y71) := ⟨_, rfl⟩
          rw [← h81] at h76
          have c78 := Cx.ofUp C.sb u77
          have h82 : cs80[1]? = some c33 := by rw [h81, List.getElem?_set_ne (by decide)]; exact h34
          replace h18 := h18.cf c78 h79
          replace C := C.ofc c78 hs0
          refine W.e (k70 _ _ ?_)
          refine cw_seq fun K83 k84 => ?_
          refine cw_region (sv (mvv v0 rfl) (sv (mvv (.int .i64 y30.given) rfl) (sv (mvv v17 rfl) (sv (mvv (.string y12.2.1) rfl) ?_))))
          obtain ⟨y85, h86, h⟩ := bnd_some h
          refine sc (dc_call (vs := [v0, .int .i64 y30.given, v17, .string y12.2.1]) can44 rfl ?_)
          refine (index_Index_put_w C.sb h76 h18 h86).mono ?_
          rintro _ w87 ⟨S88, cs90, fp91, rfl, c89, h92, h93⟩
          refine ⟨_, rfl, ?_⟩
          have h94 : ∀ b, b ∈ fp0 → ¬ S64 b := fun b hb => (h76.lt b hb).2
          have h95 : ∀ b, b ∈ fp91 → b ∈ fp0 ∨ w.heap.size ≤ b := fun b hb => (h93 b hb).elim (hs0 b) (fun hl => .inr (Nat.le_trans C.up.size hl))
          replace C := C.ofc c89 hs0
          refine W.e (k84 _ _ ?_)
          refine cw_seq fun K96 k97 => ?_
          refine cw_region (sv (mvv (.int .i64 y30.given) rfl) (sv (asv (.int .i64 y30.given) rfl) (sv (asv (.int .i64 0) rfl) (W.e (k97 _ _ (cw_ret ?_))))))
          obtain rfl := Option.some.inj h
          exact ⟨_, rfl, _, _, _, rfl, C, h92, h95⟩


set_option maxRecDepth 100000 in
set_option maxHeartbeats 4000000 in
theorem slices_IndexFunc_api_Ask_api_Ask_w {S : Nat → Prop} {w : World} {a0 : List api_Ask} {v0 : Value} {f : FuncId} {cs : List Value} {p : api_Ask → Option Bool} {r : Int} (hS : Sb S w) (h0 : Sl (kSl api_Ask.k) S w v0 a0) (hc : CanE Tryz.prog f = true)
    (hf : ∀ x w' v, Up No w w' → Sl api_Ask.k S w' v x → ∀ b, p x = some b → Calls Tryz.prog f ([v] ++ cs).toArray w' fun e w1 => e = .returned (.bool b) ∧ Up No w' w1) (h : indexFunc_ p a0 0 = some r) :
    Calls Tryz.prog 94 (List.toArray [v0, .func (.func f) #[] cs.toArray]) w fun e w1 => e = .returned (.int .i64 r) ∧ Up No w w1 := by
  refine enter Tryz.func94 rfl (by kernel_rfl) rfl ?_
  have hlim : a0.length ≤ lim := by obtain ⟨_, _, _, _, hl, _⟩ := sl_slice.1 h0; exact hl
  refine cw_seq fun K0 k0 => ?_
  refine cw_region (sv (asv (.int .i64 0) rfl) (W.e (k0 _ _ ?_)))
  refine cw_seq' (fun ρ w1 => Up No w w1 ∧ r = -1) ?_ ?_
  · refine cw_seq fun K1 k1 => ?_
    refine cw_region (sv (mvv v0 rfl) ?_)
    refine sv (rv_lenS el32 h0 rfl) (sv (mvv (.int .i64 0) rfl) (W.e (k1 _ _ ?_)))
    refine cw_block (cw_loop (fun n ρ w1 => ∃ i, n = a0.length - i ∧ i ≤ a0.length ∧ Up No w w1 ∧ indexFunc_ p (a0.drop i) (i : Int) = some r ∧ Has ρ [(0, v0), (1, .func (.func f) #[] cs.toArray), (7, .int .i64 (a0.length : Int)), (8, .int .i64 (i : Int))]) _ ⟨0, rfl, Nat.zero_le _, Up.refl _ _, h, ⟨rfl, rfl, rfl, rfl, trivial⟩⟩ ?_)
    rintro n ρ w1 ⟨i, rfl, hi, up, hr, hh⟩
    refine hh.cw fun ρ => ?_
    clear hh
    refine cw_seq fun K2 k2 => ?_
    refine cw_region (sv (rv_lss rfl rfl) (W.e (k2 _ _ ?_)))
    refine cw_seq fun K3 k3 => ?_
    by_cases hlt : i < a0.length
    · refine cw_t rfl (by simp; omega) (cw_skip (k3 _ _ ?_))
      obtain ⟨x, hx⟩ : ∃ x, a0[i]? = some x := ⟨_, List.getElem?_eq_getElem hlt⟩
      have hat : at_ a0 (i : Int) = some x := by simp [at_, hx]
      have hd : a0.drop i = x :: a0.drop (i + 1) := by
        have := List.drop_eq_getElem_cons hlt
        rw [List.getElem?_eq_getElem hlt] at hx
        rw [this, Option.some.inj hx]
      rw [hd] at hr
      obtain ⟨b, hb, hr⟩ := bnd_some hr
      refine cw_seq fun K4 k4 => ?_
      refine cw_block ?_
      refine cw_seq fun K5 k5 => ?_
      refine cw_region (sv (mvv (.int .i64 (i : Int)) rfl) (sv (asv (.int .i64 (i : Int)) rfl) (W.e (k5 _ _ ?_))))
      refine cw_seq fun K6 k6 => ?_
      have h1 := h0.nw up
      refine cw_region (sv (mvv (.func (.func f) #[] cs.toArray) rfl) (sv (mvv v0 rfl) (sv (mvv (.int .i64 (i : Int)) rfl) ?_)))
      refine sv (rv_index el32 h1 rfl rfl hat) ?_
      obtain ⟨v, hv, hl⟩ := rw_loadA (P := Tryz.prog) el32 h1 hat
      refine sr (hl _ (Sm.refl _ _) rfl) ?_
      refine sc (dc_callC (vs := [v]) rfl hc rfl ?_)
      refine (hf x w1 v up hv b hb).mono ?_
      rintro _ w2 ⟨rfl, up2⟩
      refine ⟨_, rfl, W.e (k6 _ _ ?_)⟩
      cases b with
      | true =>
        refine cw_t rfl rfl ?_
        refine cw_seq fun K7 k7 => ?_
        refine cw_region (sv (mvv (.int .i64 (i : Int)) rfl) (sv (asv (.int .i64 (i : Int)) rfl) (W.e (k7 _ _ (cw_ret ?_)))))
        obtain rfl := Option.some.inj hr
        exact ⟨_, rfl, rfl, up.trans up2⟩
      | false =>
        refine cw_f rfl rfl (cw_skip (k4 _ _ ?_))
        unfold lim at hlim
        refine cw_region (sv (rv_add (r := ((i + 1 : Nat) : Int)) rfl rfl (by rw [IntKind.wrap_i64]; simp; omega)) (sv (mvv (.int .i64 ((i + 1 : Nat) : Int)) rfl) (W.e ?_)))
        exact ⟨_, by omega, i + 1, rfl, by omega, up.trans up2, by simpa using hr, ⟨rfl, rfl, rfl, rfl, trivial⟩⟩
    · refine cw_f rfl (by simp; omega) (cw_exit ?_)
      have : a0.drop i = [] := List.drop_eq_nil_of_le (by omega)
      rw [this] at hr
      exact ⟨up, (Option.some.inj hr).symm⟩
  · rintro ρ w1 ⟨up, rfl⟩
    refine cw_seq fun K1 k1 => ?_
    refine cw_region (sv (asv (.int .i64 (-1)) rfl) (W.e (k1 _ _ (cw_ret ?_))))
    exact ⟨_, rfl, rfl, up⟩


set_option maxRecDepth 100000 in
set_option maxHeartbeats 4000000 in
theorem slices_ContainsFunc_api_Ask_api_Ask_w {S : Nat → Prop} {w : World} {a0 : List api_Ask} {v0 : Value} {f : FuncId} {cs : List Value} {p : api_Ask → Option Bool} {r : Int} (hS : Sb S w) (h0 : Sl (kSl api_Ask.k) S w v0 a0) (hc : CanE Tryz.prog f = true)
    (hf : ∀ x w' v, Up No w w' → Sl api_Ask.k S w' v x → ∀ b, p x = some b → Calls Tryz.prog f ([v] ++ cs).toArray w' fun e w1 => e = .returned (.bool b) ∧ Up No w' w1) (h : indexFunc_ p a0 0 = some r) :
    Calls Tryz.prog 74 (List.toArray [v0, .func (.func f) #[] cs.toArray]) w fun e w1 => e = .returned (.bool (decide (0 ≤ r))) ∧ Up No w w1 := by
  refine enter Tryz.func74 rfl (by kernel_rfl) rfl ?_
  refine cw_seq fun K0 k0 => ?_
  refine cw_region (sv (asv (.bool false) rfl) (W.e (k0 _ _ ?_)))
  refine cw_seq fun K1 k1 => ?_
  refine cw_region (sv (mvv v0 rfl) (sv (mvv (.func (.func f) #[] cs.toArray) rfl) (sc (dc_call (vs := [v0, .func (.func f) #[] cs.toArray]) can94 rfl ?_))))
  refine (slices_IndexFunc_api_Ask_api_Ask_w hS h0 hc hf h).mono ?_
  rintro _ w1 ⟨rfl, up⟩
  exact ⟨_, rfl, sv (rv_geq rfl rfl) (sv (asv _ rfl) (W.e (k1 _ _ (cw_ret ⟨_, rfl, rfl, up⟩))))⟩

noncomputable def match_may (a0 : api_Ask) : Option Bool :=
  ((((label_Name a0.Name).bind fun y17 => (bif (!y17) then some true else some (decide ((64 : Int) < (a0.Val.size : Int))))).bind fun o13 => (bif o13 then some (.inr false) else some (.inl ()))).bind (Sum.elim (fun o9n => ((bif (a0.Op == (1 : Int)) then some (.inr (!strEq a0.Val ByteArray.empty)) else (bif (a0.Op == (4 : Int)) then some (.inr (strEq a0.Val ByteArray.empty)) else ((bif (a0.Op == (2 : Int)) then some (a0.Op == (2 : Int)) else some (a0.Op == (3 : Int))).bind fun o48 => (bif o48 then some (.inr true) else some (.inl ()))))).bind (Sum.elim (fun o32n => some false) (fun q => some q)))) (fun q => some q)))
set_option maxRecDepth 100000 in
set_option maxHeartbeats 4000000 in
theorem match_may_w {S : Nat → Prop} {w : World} {a0 : api_Ask} {v0 : Value} {r : Bool} (hS : Sb S w) (h0 : Sl api_Ask.k S w v0 a0) (h : match_may a0 = some r) :
    Calls Tryz.prog 76 (List.toArray [v0]) w fun e w1 => ∃ S1, e = .returned (.bool r) ∧ Cx No S w S1 w1 := by
  refine enter Tryz.func76 rfl (by kernel_rfl) rfl ?_
  have C := Cx.refl (F := No) hS
  unfold match_may at h
  obtain rfl := api_Ask.o.1 h0
  refine cw_seq fun K1 k2 => ?_
  refine cw_region ?_
  refine sc (dc_boxS C.sb rfl fun b3 S4 w5 c6 h7 => ?_)
  replace C := C.trans c6
  refine sv (asv (.bool false) rfl) (W.e (k2 _ _ ?_))
  obtain ⟨o9, h12, h⟩ := bnds_some h
  refine cw_seq' (fun ρ w1 => ∃ o9n, o9 = (.inl o9n) ∧ ∃ S1, Cx No S w S1 w1 ∧ Has ρ [(1, .pointer (some ⟨b3, 0, none⟩))] ∧ Bs S1 w1 b3 [.int .u8 a0.Op, .string a0.Name, .string a0.Val] 53) ?_ ?_
  · obtain ⟨o13, h16, h12⟩ := bnd_some h12
    refine cw_seq' (fun ρ w1 => ∃ S1, Cx No S w S1 w1 ∧ Has ρ [(1, .pointer (some ⟨b3, 0, none⟩)), (12, .bool o13)] ∧ Bs S1 w1 b3 [.int .u8 a0.Op, .string a0.Name, .string a0.Val] 53) ?_ ?_
    · refine cw_region (sv (rv_fieldAddr st53 rfl rfl) (sr (rw_bk ag9 h7.2 rfl rfl) ?_))
      obtain ⟨y17, h18, h16⟩ := bnd_some h16
      refine sc (dc_call (vs := [.string a0.Name]) can87 rfl ?_)
      refine (label_Name_w C.sb  h18).mono ?_
      rintro _ w19 ⟨S20, rfl, c21⟩
      refine ⟨_, rfl, ?_⟩
      replace h7 := h7.cx c21
      replace C := C.trans c21
      refine sv (rv_not rfl) (sv (mvv (.bool (!y17)) rfl) ?_)
      rcases bif_some h16 with ⟨b22, h16⟩ | ⟨b22, h16⟩
      · refine W.n (gn rfl rfl rfl b22) (W.n (gn rfl rfl rfl b22) (W.n (gn rfl rfl rfl b22) (W.n (gn rfl rfl rfl b22) (sv (ptk (.bool true) rfl b22 rfl) (W.e ?_)))))
        obtain rfl := Option.some.inj h16
        exact ⟨_, C, ⟨rfl, rfl, trivial⟩, h7⟩
      · refine W.v (gy rfl rfl rfl b22) (rv_fieldAddr st53 rfl rfl) (W.r (gy rfl rfl rfl b22) (rw_bk ag9 h7.2 rfl rfl) (W.v (gy rfl rfl rfl b22) (rv_slen Tryz.underlying9 rfl) (W.v (gy rfl rfl rfl b22) (rv_gtr rfl rfl) (sv (pfk (.bool (decide ((64 : Int) < (a0.Val.size : Int)))) rfl b22 rfl) (W.e ?_)))))
        obtain rfl := Option.some.inj h16
        exact ⟨_, C, ⟨rfl, rfl, trivial⟩, h7⟩
    · rintro ρ w24 ⟨S23, C, h25, h7⟩
      refine h25.cw fun ρ => ?_
      clear h25
      rcases bif_some h12 with ⟨b26, h12⟩ | ⟨b26, h12⟩
      · refine cw_t rfl b26 ?_
        refine cw_seq fun K27 k28 => ?_
        refine cw_region (sv (asv (.bool false) rfl) (W.e (k28 _ _ (cw_ret ?_))))
        obtain rfl := Option.some.inj h12
        replace h := h.2 _ rfl
        obtain rfl := Option.some.inj h
        exact ⟨_, rfl, _, rfl, C⟩
      · refine cw_f rfl b26 (cw_skip ?_)
        obtain rfl := Option.some.inj h12
        exact ⟨_, rfl, ⟨_, C, ⟨rfl, trivial⟩, h7⟩⟩
  · rintro ρ w30 ⟨o9n, rfl, ⟨S29, C, h31, h7⟩⟩
    replace h := h.1 _ rfl
    refine h31.cw fun ρ => ?_
    clear h31
    obtain ⟨o32, h35, h⟩ := bnds_some h
    refine cw_seq' (fun ρ w1 => ∃ o32n, o32 = (.inl o32n) ∧ ∃ S1, Cx No S w S1 w1 ∧ Has ρ []) ?_ ?_
    · refine cw_seq fun K36 k37 => ?_
      refine cw_region (sv (rv_fieldAddr st53 rfl rfl) (sr (rw_bk ag5 h7.2 rfl rfl) (W.e (k37 _ _ (cw_block ?_)))))
      refine cw_seq fun K38 k39 => ?_
      refine cw_region (sv (rv_eql rfl rfl) (sv (asv (.bool (a0.Op == (1 : Int))) rfl) (W.e (k39 _ _ ?_))))
      rcases bif_some h35 with ⟨b40, h35⟩ | ⟨b40, h35⟩
      · refine cw_t rfl b40 ?_
        refine cw_seq fun K41 k42 => ?_
        refine cw_region (sv (rv_fieldAddr st53 rfl rfl) (sr (rw_bk ag9 h7.2 rfl rfl) (sv (rv_sneq rfl rfl) (sv (asv (.bool (!strEq a0.Val ByteArray.empty)) rfl) (W.e (k42 _ _ (cw_ret ?_)))))))
        obtain rfl := Option.some.inj h35
        replace h := h.2 _ rfl
        obtain rfl := Option.some.inj h
        exact ⟨_, rfl, _, rfl, C⟩
      · refine cw_f rfl b40 ?_
        refine cw_seq fun K43 k44 => ?_
        refine cw_region (sv (rv_eql rfl rfl) (sv (asv (.bool (a0.Op == (4 : Int))) rfl) (W.e (k44 _ _ ?_))))
        rcases bif_some h35 with ⟨b45, h35⟩ | ⟨b45, h35⟩
        · refine cw_t rfl b45 ?_
          refine cw_seq fun K46 k47 => ?_
          refine cw_region (sv (rv_fieldAddr st53 rfl rfl) (sr (rw_bk ag9 h7.2 rfl rfl) (sv (rv_seql rfl rfl) (sv (asv (.bool (strEq a0.Val ByteArray.empty)) rfl) (W.e (k47 _ _ (cw_ret ?_)))))))
          obtain rfl := Option.some.inj h35
          replace h := h.2 _ rfl
          obtain rfl := Option.some.inj h
          exact ⟨_, rfl, _, rfl, C⟩
        · refine cw_f rfl b45 ?_
          obtain ⟨o48, h51, h35⟩ := bnd_some h35
          refine cw_seq' (fun ρ w1 => ∃ S1, Cx No S w S1 w1 ∧ Has ρ [(25, .bool o48)]) ?_ ?_
          · refine cw_seq fun K52 k53 => ?_
            refine cw_region (sv (rv_eql rfl rfl) (sv (asv (.bool (a0.Op == (2 : Int))) rfl) (W.e (k53 _ _ ?_))))
            rcases bif_some h51 with ⟨b54, h51⟩ | ⟨b54, h51⟩
            · refine cw_t rfl b54 (cw_skip ?_)
              obtain rfl := Option.some.inj h51
              exact ⟨_, C, ⟨rfl, trivial⟩⟩
            · refine cw_f rfl b54 (cw_region (sv (rv_eql rfl rfl) (sv (asv (.bool (a0.Op == (3 : Int))) rfl) (W.e ?_))))
              obtain rfl := Option.some.inj h51
              exact ⟨_, C, ⟨rfl, trivial⟩⟩
          · rintro ρ w56 ⟨S55, C, h57⟩
            refine h57.cw fun ρ => ?_
            clear h57
            rcases bif_some h35 with ⟨b58, h35⟩ | ⟨b58, h35⟩
            · refine cw_t rfl b58 ?_
              refine cw_seq fun K59 k60 => ?_
              refine cw_region (sv (asv (.bool true) rfl) (W.e (k60 _ _ (cw_ret ?_))))
              obtain rfl := Option.some.inj h35
              replace h := h.2 _ rfl
              obtain rfl := Option.some.inj h
              exact ⟨_, rfl, _, rfl, C⟩
            · refine cw_f rfl b58 (cw_skip ?_)
              obtain rfl := Option.some.inj h35
              exact ⟨_, rfl, ⟨_, C, trivial⟩⟩
    · rintro ρ w62 ⟨o32n, rfl, ⟨S61, C, h63⟩⟩
      replace h := h.1 _ rfl
      refine h63.cw fun ρ => ?_
      clear h63
      refine cw_seq fun K64 k65 => ?_
      refine cw_region (sv (asv (.bool false) rfl) (W.e (k65 _ _ (cw_ret ?_))))
      obtain rfl := Option.some.inj h
      exact ⟨_, rfl, _, rfl, C⟩

noncomputable def match_Right_1 (a0 : api_Ask) : Option Bool :=
  ((match_may a0).bind fun y11 => some (!y11))
set_option maxRecDepth 100000 in
set_option maxHeartbeats 4000000 in
theorem match_Right_1_w {S : Nat → Prop} {w : World} {a0 : api_Ask} {v0 : Value} {r : Bool} (hS : Sb S w) (h0 : Sl api_Ask.k S w v0 a0) (h : match_Right_1 a0 = some r) :
    Calls Tryz.prog 75 (List.toArray [v0]) w fun e w1 => ∃ S1, e = .returned (.bool r) ∧ Cx No S w S1 w1 := by
  refine enter Tryz.func75 rfl (by kernel_rfl) rfl ?_
  have C := Cx.refl (F := No) hS
  unfold match_Right_1 at h
  obtain rfl := api_Ask.o.1 h0
  refine cw_seq fun K1 k2 => ?_
  refine cw_region ?_
  refine sc (dc_boxS C.sb rfl fun b3 S4 w5 c6 h7 => ?_)
  replace C := C.trans c6
  refine sv (asv (.bool false) rfl) (W.e (k2 _ _ ?_))
  refine cw_seq fun K9 k10 => ?_
  refine cw_region (sr (rw_bkA ag53 h7.2 rfl rfl rfl) ?_)
  obtain ⟨y11, h12, h⟩ := bnd_some h
  refine sc (dc_call (vs := [.agg (List.toArray [.int .u8 a0.Op, .string a0.Name, .string a0.Val])]) can76 rfl ?_)
  refine (match_may_w C.sb ((api_Ask.o (x := a0)).2 rfl) h12).mono ?_
  rintro _ w13 ⟨S14, rfl, c15⟩
  refine ⟨_, rfl, ?_⟩
  replace C := C.trans c15
  refine sv (rv_not rfl) (sv (asv (.bool (!y11)) rfl) (W.e (k10 _ _ (cw_ret ?_))))
  obtain rfl := Option.some.inj h
  exact ⟨_, rfl, _, rfl, C⟩

noncomputable def match_Right (a0 : List api_Ask) : Option Bool :=
  ((bif (decide ((a0.length : Int) ≤ (8 : Int))) then ((indexFunc_ (fun x => match_Right_1 x ) a0 0).bind fun y8 => some (!(decide (0 ≤ y8)))) else some false).bind fun o3 => some o3)
set_option maxRecDepth 100000 in
set_option maxHeartbeats 4000000 in
theorem match_Right_w {S : Nat → Prop} {w : World} {a0 : List api_Ask} {v0 : Value} {r : Bool} (hS : Sb S w) (h0 : Sl (kSl api_Ask.k) S w v0 a0) (h : match_Right a0 = some r) :
    Calls Tryz.prog 49 (List.toArray [v0]) w fun e w1 => ∃ S1, e = .returned (.bool r) ∧ Cx No S w S1 w1 := by
  refine enter Tryz.func49 rfl (by kernel_rfl) rfl ?_
  have C := Cx.refl (F := No) hS
  unfold match_Right at h
  refine cw_seq fun K1 k2 => ?_
  refine cw_region (sv (asv (.bool false) rfl) (W.e (k2 _ _ ?_)))
  obtain ⟨o3, h6, h⟩ := bnd_some h
  refine cw_seq' (fun ρ w1 => ∃ S1, Cx No S w S1 w1 ∧ Has ρ [(2, .bool o3)]) ?_ ?_
  · refine cw_region (sv (mvv v0 rfl) (sv (rv_lenS el32 h0 rfl) (sv (rv_leq rfl rfl) (sv (mvv (.bool (decide ((a0.length : Int) ≤ (8 : Int)))) rfl) ?_))))
    rcases bif_some h6 with ⟨b7, h6⟩ | ⟨b7, h6⟩
    · refine W.v (gy rfl rfl rfl b7) (mvv v0 rfl) ?_
      obtain ⟨y8, h9, h6⟩ := bnd_some h6
      refine W.c (gy rfl rfl rfl b7) (dc_call (vs := [v0, .func (.func 75) #[] #[]]) can74 rfl ?_)
      have h9f : ∀ (x : api_Ask) (w' : World) (v : Value), Up No w w' → Sl api_Ask.k S w' v x → ∀ b, match_Right_1 x  = some b → Calls Tryz.prog 75 (List.toArray ([v] ++ [])) w' (fun e w1 => e = .returned (.bool b) ∧ Up No w' w1) := fun x w' v hu hx b hb => by skip; exact (match_Right_1_w (C.sb.up hu) hx hb).mono fun e w1 hp => (by obtain ⟨S1, rfl, c⟩ := hp; exact ⟨rfl, c.up⟩ : e = .returned (.bool b) ∧ Up No w' w1)
      refine (slices_ContainsFunc_api_Ask_api_Ask_w C.sb h0 can75 h9f h9).mono ?_
      rintro _ w10 ⟨rfl, u11⟩
      refine ⟨_, rfl, ?_⟩
      replace C := C.new u11
      refine W.v (gy rfl rfl rfl b7) (rv_not rfl) (sv (ptk (.bool (!(decide (0 ≤ y8)))) rfl b7 rfl) (sv (asv (.bool (!(decide (0 ≤ y8)))) rfl) (W.e ?_)))
      obtain rfl := Option.some.inj h6
      exact ⟨_, C, ⟨rfl, trivial⟩⟩
    · refine W.n (gn rfl rfl rfl b7) (W.n (gn rfl rfl rfl b7) (W.n (gn rfl rfl rfl b7) (sv (pfk (.bool false) rfl b7 rfl) (sv (asv (.bool false) rfl) (W.e ?_)))))
      obtain rfl := Option.some.inj h6
      exact ⟨_, C, ⟨rfl, trivial⟩⟩
  · rintro ρ w13 ⟨S12, C, h14⟩
    refine h14.cw fun ρ => ?_
    clear h14
    refine cw_ret ?_
    obtain rfl := Option.some.inj h
    exact ⟨_, rfl, _, rfl, C⟩

def slices_Sort_int_int (a0 : List Int) : Option (List Int) := some (a0.mergeSort fun x y => decide (x ≤ y))
set_option maxRecDepth 100000 in
theorem slices_Sort_int_int_w {S : Nat → Prop} {w : World} {a0 : List Int} {v0 : Value} {base : Nat} {r : List Int} (hS : Sb S w) (h0 : Ow (kI .i64) 3 S base w v0 a0) (h : slices_Sort_int_int a0 = some r) :
    Calls Tryz.prog 61 (List.toArray [v0]) w fun e w1 => e = .returned (.tuple (List.toArray [])) ∧ Up (Blk v0) w w1 ∧ Ow (kI .i64) 3 S base w1 v0 r :=
  sortI_w Tryz.slices_Sort_int Tryz.slices_Sort_int_none hS h0 (Option.some.inj h)

noncomputable def index_Index_all (a0 : index_Index) : Option (List Int) := keys_ (a0.series.map (·.1))
set_option maxRecDepth 100000 in
set_option maxHeartbeats 4000000 in
theorem index_Index_all_w {S : Nat → Prop} {w : World} {a0 : index_Index} {v0 : Value} {cs0 : List Value} {fp0 : List Nat} {r : List Int} (hS : Sb S w) (h0 : Ob 61 (index_Index.fs a0) S w v0 cs0 fp0) (h : index_Index_all a0 = some r) :
    Calls Tryz.prog 34 (List.toArray [v0]) w fun e w1 => ∃ S1 u0, e = .returned (u0) ∧ Cx No S w S1 w1 ∧ Ow (kI .i64) 3 S1 w.heap.size w1 u0 r := by
  refine enter Tryz.func34 rfl (by kernel_rfl) rfl ?_
  have C := Cx.refl (F := No) hS
  unfold index_Index_all at h
  refine cw_seq fun K1 k1 => cw_region (sv (asv (.slice none 0 0) rfl) (W.e (k1 _ _ ?_)))
  have x := a0
  have hq : Ob 61 (index_Index.fs a0) S w v0 cs0 fp0 := h0
  obtain ⟨hlen, hr⟩ := keys_some h
  refine cw_seq fun K5 k5 => cw_region (sv (asv (.slice none 0 0) rfl) (W.e (k5 _ _ ?_)))
  obtain ⟨c, hc⟩ := hq.at (i := 0) rfl
  obtain ⟨fi, hrep, hsub⟩ := Ob.rep hq (i := 0) rfl hc
  obtain ⟨b, L, cl, rfl, hfi, hSb, hM, hR⟩ := hrep
  have hbf : b ∈ fp0 := hsub b (by rw [hfi]; simp)
  have hlt : ∀ q ∈ fp0, q < w.heap.size := fun q hq2 => (hq.lt q hq2).1
  have hk : L.map (·.1) = a0.series.map (·.1) := hR.keys
  refine cw_seq' (fun ρ w2 => ∃ u ks, Cx No S w S w2 ∧ Has ρ [(3, u)] ∧ Ow (kI .i64) 3 S w.heap.size w2 u ks ∧ ks.Perm (L.map (·.1))) ?_ ?_
  · refine cw_seq fun K6 k6 => ?_
    refine cw_region (sv (mvv v0 rfl) ?_)
    refine sv (rv_nilcheck rfl hq.ptr) (sv (rv_fieldAddr (b := pb v0) (o := 0) st61 rfl hq.ptr) (sr (rw_ofield (i := 0) (c := .map (some b)) hq ag56 hc rfl) ?_))
    refine sc (dc_range hM Tryz.underlying56 rfl fun rb w1 hrb hrl hI up => ?_)
    replace C := C.new up
    replace hM := hM.to (up.block b hM.lt fun h => h)
    refine W.e (k6 _ _ ?_)
    refine cw_block (cw_loop (fun n ρ w2 => ∃ rem lst u ks, n = rem.length ∧ Cx No S w S w2 ∧ Has ρ [(3, u), (9, .pointer (some ⟨rb, 0, none⟩))] ∧ Mp ((kyI Tryz.underlying3)) w2 b L cl ∧ It w2 rb b L cl rem lst ∧ Ow (kI .i64) 3 S w.heap.size w2 u ks ∧ (ks ++ rem.map (·.1)).Perm (L.map (·.1)) ∧ ¬ Blk u rb) _ ⟨L, none, _, [], rfl, C, ⟨rfl, rfl, trivial⟩, hM, hI, Ow.nil _ _ _ _ _, List.Perm.refl _, fun hb => ap_nil (B := fun _ => True) _ hb trivial⟩ ?_)
    clear C hM hI
    rintro n ρ w2 ⟨rem, lst, u, ks, rfl, C, hh, hM, hI, hO, hP, hrb2⟩
    refine hh.cw fun ρ => ?_
    clear hh
    have hbw : b < w.heap.size := hlt b hbf
    refine cw_seq fun K7 k7 => ?_
    refine cw_region (sc (dc_next hM hI rfl ?_ ?_))
    · rintro rfl
      refine sv (rv_extract rfl rfl) (W.e (k7 _ _ ?_))
      refine cw_seq fun K8 k8 => cw_f rfl rfl (cw_exit ⟨u, ks, C, ⟨rfl, trivial⟩, hO, by simpa using hP⟩)
    · intro e w3 he hI2 up2
      refine sv (rv_extract rfl rfl) (W.e (k7 _ _ ?_))
      refine cw_seq fun K8 k8 => cw_t rfl rfl (cw_skip (k8 _ _ ?_))
      replace C := C.ofp up2 (fun q hq => .inr (by have hq : q = rb := hq; omega))
      have hrS : ∀ q, One rb q → ¬ S q := fun q hq hs => by have hq : q = rb := hq; have := hS q hs; omega
      replace hO := hO.wr up2 hrS (fun q h1 h2 => by have h2 : q = rb := h2; rw [h2] at h1; exact hrb2 h1)
      replace hM := hM.to (up2.block b hM.lt fun hq => by have hq : b = rb := hq; omega)
      have heL : e ∈ L := hI.sub.subset he
      refine cw_block (cw_seq fun K10 k10 => ?_)
      refine cw_region (sr (rw_entry hM hI2 heL rfl) (sv (rv_extract rfl rfl) (sv (asv (.int .i64 e.1) rfl) (W.e (k10 _ _ ?_)))))
      refine cw_region (sv (mvv u rfl) (sv (mvv (.int .i64 e.1) rfl) (sc (dc_lit (vs := [.int .i64 e.1]) (xs := [e.1]) (base := w.heap.size) el49 rfl rfl (.cons (sl_sc.2 rfl) .nil) (Nat.le_of_ble_eq_true rfl) C.up.size C.sb fun u2 w4 hO2 hb2 up4 => ?_))))
      replace C := C.new up4
      replace hO := hO.nw up4
      replace hM := hM.to (up4.block b hM.lt fun h => h)
      replace hI2 := hI2.to (up4.block rb hI2.lt fun h => h)
      have hp1 : (ks ++ [e.1] ++ (rem.filter fun z => !decide (e.2.2 = z.2.2)).map (·.1)).Perm (L.map (·.1)) := (keys_step he (hI.born hM)).trans hP
      have happ : app_ 8 ks [e.1] = some (ks ++ [e.1]) := by
        have := hp1.length_eq
        simp only [List.length_append, List.length_map, List.length_cons, List.length_nil] at this
        have hk2 := congrArg List.length hk
        simp only [List.length_map] at hk2 hlen
        unfold app_
        rw [if_pos (by simp only [List.length_cons, List.length_nil]; omega)]
      refine sc (dc_append el49 (by decide) hO hO2.src rfl rfl happ C.up.size C.sb fun u3 w5 hO3 up5 hb3 => ?_)
      have hbu : ∀ q, q < w.heap.size → ¬ Blk u q := fun q hq hb => by have := (hO.lt q hb).1; omega
      have hrl2 := hI2.lt
      replace C := C.ow hO up5
      replace hM := hM.to (up5.block b hM.lt (hbu b hbw))
      have hI3 := hI2.to (up5.block rb hrl2 hrb2)
      refine sv (asv u3 rfl) (W.e ?_)
      refine ⟨_, rest_lt he, _, some e, u3, ks ++ [e.1], rfl, C, ⟨rfl, rfl, trivial⟩, hM, hI3, hO3, hp1, fun hb => (hb3 rb hb).elim hrb2 (fun hl => by omega)⟩
  · rintro ρ w2 ⟨u, ks, C, hh, hO, hP⟩
    refine hh.cw fun ρ => ?_
    clear hh
    refine cw_seq fun K11 k11 => cw_region (sv (mvv u rfl) (sc (dc_call (vs := [u]) can61 rfl ?_)))
    refine (slices_Sort_int_int_w C.sb hO rfl).mono ?_
    rintro _ w3 ⟨rfl, up3, hO3⟩
    refine ⟨_, rfl, W.e (k11 _ _ ?_)⟩
    replace C := C.ow hO up3
    refine cw_seq fun K12 k12 => cw_region (sv (mvv u rfl) (sv (asv u rfl) (W.e (k12 _ _ (cw_ret ?_)))))
    have he : (ks.mergeSort fun x y => decide (x ≤ y)) = r := by
      rw [← hr, ← hk]
      exact keys_perm hP
    rw [he] at hO3
    exact ⟨_, rfl, S, u, rfl, C, hO3⟩

noncomputable def post_Minus (a0 : List Int) (a1 : List Int) : Option ((List Int) × Int) :=
  ((post_merge a0 a1 true false false).bind fun y5 => some (y5.1, y5.2))
set_option maxRecDepth 100000 in
set_option maxHeartbeats 4000000 in
theorem post_Minus_w {S : Nat → Prop} {w : World} {a0 : List Int} {a1 : List Int} {v0 v1 : Value} {r : (List Int) × Int} (hS : Sb S w) (h0 : Sl (kSl (kI .i64)) S w v0 a0) (h1 : Sl (kSl (kI .i64)) S w v1 a1) (h : post_Minus a0 a1 = some r) :
    Calls Tryz.prog 77 (List.toArray [v0, v1]) w fun e w1 => ∃ S1 u0, e = .returned (.tuple (List.toArray [u0, .int .i64 r.2])) ∧ Cx No S w S1 w1 ∧ Sl (kSl (kI .i64)) S1 w1 u0 r.1 := by
  refine enter Tryz.func77 rfl (by kernel_rfl) rfl ?_
  have C := Cx.refl (F := No) hS
  unfold post_Minus at h
  refine cw_seq fun K1 k2 => ?_
  refine cw_region (sv (asv (.slice none 0 0) rfl) (sv (asv (.int .i64 0) rfl) (W.e (k2 _ _ ?_))))
  refine cw_seq fun K3 k4 => ?_
  refine cw_region (sv (mvv v0 rfl) (sv (mvv v1 rfl) ?_))
  obtain ⟨y5, h6, h⟩ := bnd_some h
  refine sc (dc_call (vs := [v0, v1, .bool true, .bool false, .bool false]) can95 rfl ?_)
  refine (post_merge_w C.sb h0 h1 h6).mono ?_
  rintro _ w7 ⟨S8, v10, rfl, c9, h11⟩
  refine ⟨_, rfl, ?_⟩
  replace C := C.trans c9
  refine sv (rv_extract rfl rfl) (sv (rv_extract rfl rfl) (sv (asv v10 rfl) (sv (asv (.int .i64 y5.2) rfl) (W.e (k4 _ _ (cw_ret ?_))))))
  obtain rfl := Option.some.inj h
  exact ⟨_, rfl, _, _, rfl, C, h11⟩

def slices_Clone_int_int (a0 : List Int) : Option (List Int) := clone_ 8 a0
set_option maxRecDepth 100000 in
theorem slices_Clone_int_int_w {S : Nat → Prop} {w : World} {a0 : List Int} {v0 : Value} {r : List Int} (hS : Sb S w) (h0 : Sl (kSl (kI .i64)) S w v0 a0) (h : slices_Clone_int_int a0 = some r) :
    Calls Tryz.prog 52 (List.toArray [v0]) w fun e w1 => ∃ S1 u0, e = .returned u0 ∧ Cx No S w S1 w1 ∧ Ow (kI .i64) 3 S1 w.heap.size w1 u0 r := by
  refine enter Tryz.func52 rfl (by kernel_rfl) rfl ?_
  have C := Cx.refl (F := No) hS
  unfold slices_Clone_int_int at h
  refine cw_seq fun K1 k1 => cw_region (sv rv_assign (W.e (k1 _ _ ?_)))
  obtain ⟨A, c, rfl, _, _, hA⟩ := sl_slice.1 h0
  refine cw_seq fun K2 k2 => cw_seq fun K3 k3 => cw_region (sv rv_move (sv (rv_slnil Tryz.underlying49 rfl rfl) (W.e (k3 _ _ ?_))))
  cases A with
  | none =>
    refine cw_t rfl rfl (cw_seq fun K4 k4 => cw_region (sv rv_assign (W.e (k4 _ _ (cw_ret ?_)))))
    have : a0 = [] := hA.elim (fun h => h) fun ⟨_, _, h, _⟩ => by cases h
    subst this
    obtain rfl := clone_nil h
    exact ⟨_, rfl, S, _, rfl, C, Ow.nil _ _ _ _ _⟩
  | some a =>
    refine cw_f rfl rfl (cw_skip (k2 _ _ ?_))
    refine cw_seq fun K5 k5 => cw_region ?_
    refine sc (dc_lit (vs := []) (xs := ([] : List Int)) (base := w.heap.size) el49 rfl rfl .nil (Nat.le_of_ble_eq_true rfl) C.up.size C.sb fun u w1 ho hb up => ?_)
    replace h0 := h0.nw up
    replace C := C.new up
    refine sv rv_move (sc (dc_append el49 (by decide) ho (h0.src fun _ h => h) rfl rfl (clone_app h) C.up.size C.sb fun u2 w2 ho2 up2 hb2 => ?_))
    replace C := C.ow ho up2
    exact sv rv_assign (W.e (k5 _ _ (cw_ret ⟨_, rfl, S, _, rfl, C, ho2⟩)))


set_option maxRecDepth 100000 in
set_option maxHeartbeats 4000000 in
theorem slices_IndexFunc_int_int_w {S : Nat → Prop} {w : World} {a0 : List Int} {v0 : Value} {f : FuncId} {cs : List Value} {p : Int → Option Bool} {r : Int} (hS : Sb S w) (h0 : Sl (kSl (kI .i64)) S w v0 a0) (hc : CanE Tryz.prog f = true)
    (hf : ∀ x w' v, Up No w w' → Sl (kI .i64) S w' v x → ∀ b, p x = some b → Calls Tryz.prog f ([v] ++ cs).toArray w' fun e w1 => e = .returned (.bool b) ∧ Up No w' w1) (h : indexFunc_ p a0 0 = some r) :
    Calls Tryz.prog 96 (List.toArray [v0, .func (.func f) #[] cs.toArray]) w fun e w1 => e = .returned (.int .i64 r) ∧ Up No w w1 := by
  refine enter Tryz.func96 rfl (by kernel_rfl) rfl ?_
  have hlim : a0.length ≤ lim := by obtain ⟨_, _, _, _, hl, _⟩ := sl_slice.1 h0; exact hl
  refine cw_seq fun K0 k0 => ?_
  refine cw_region (sv (asv (.int .i64 0) rfl) (W.e (k0 _ _ ?_)))
  refine cw_seq' (fun ρ w1 => Up No w w1 ∧ r = -1) ?_ ?_
  · refine cw_seq fun K1 k1 => ?_
    refine cw_region (sv (mvv v0 rfl) ?_)
    refine sv (rv_lenS el49 h0 rfl) (sv (mvv (.int .i64 0) rfl) (W.e (k1 _ _ ?_)))
    refine cw_block (cw_loop (fun n ρ w1 => ∃ i, n = a0.length - i ∧ i ≤ a0.length ∧ Up No w w1 ∧ indexFunc_ p (a0.drop i) (i : Int) = some r ∧ Has ρ [(0, v0), (1, .func (.func f) #[] cs.toArray), (7, .int .i64 (a0.length : Int)), (8, .int .i64 (i : Int))]) _ ⟨0, rfl, Nat.zero_le _, Up.refl _ _, h, ⟨rfl, rfl, rfl, rfl, trivial⟩⟩ ?_)
    rintro n ρ w1 ⟨i, rfl, hi, up, hr, hh⟩
    refine hh.cw fun ρ => ?_
    clear hh
    refine cw_seq fun K2 k2 => ?_
    refine cw_region (sv (rv_lss rfl rfl) (W.e (k2 _ _ ?_)))
    refine cw_seq fun K3 k3 => ?_
    by_cases hlt : i < a0.length
    · refine cw_t rfl (by simp; omega) (cw_skip (k3 _ _ ?_))
      obtain ⟨x, hx⟩ : ∃ x, a0[i]? = some x := ⟨_, List.getElem?_eq_getElem hlt⟩
      have hat : at_ a0 (i : Int) = some x := by simp [at_, hx]
      have hd : a0.drop i = x :: a0.drop (i + 1) := by
        have := List.drop_eq_getElem_cons hlt
        rw [List.getElem?_eq_getElem hlt] at hx
        rw [this, Option.some.inj hx]
      rw [hd] at hr
      obtain ⟨b, hb, hr⟩ := bnd_some hr
      refine cw_seq fun K4 k4 => ?_
      refine cw_block ?_
      refine cw_seq fun K5 k5 => ?_
      refine cw_region (sv (mvv (.int .i64 (i : Int)) rfl) (sv (asv (.int .i64 (i : Int)) rfl) (W.e (k5 _ _ ?_))))
      refine cw_seq fun K6 k6 => ?_
      have h1 := h0.nw up
      refine cw_region (sv (mvv (.func (.func f) #[] cs.toArray) rfl) (sv (mvv v0 rfl) (sv (mvv (.int .i64 (i : Int)) rfl) ?_)))
      refine sv (rv_index el49 h1 rfl rfl hat) ?_
      obtain ⟨v, hv, hl⟩ := rw_loadA (P := Tryz.prog) el49 h1 hat
      refine sr (hl _ (Sm.refl _ _) rfl) ?_
      refine sc (dc_callC (vs := [v]) rfl hc rfl ?_)
      refine (hf x w1 v up hv b hb).mono ?_
      rintro _ w2 ⟨rfl, up2⟩
      refine ⟨_, rfl, W.e (k6 _ _ ?_)⟩
      cases b with
      | true =>
        refine cw_t rfl rfl ?_
        refine cw_seq fun K7 k7 => ?_
        refine cw_region (sv (mvv (.int .i64 (i : Int)) rfl) (sv (asv (.int .i64 (i : Int)) rfl) (W.e (k7 _ _ (cw_ret ?_)))))
        obtain rfl := Option.some.inj hr
        exact ⟨_, rfl, rfl, up.trans up2⟩
      | false =>
        refine cw_f rfl rfl (cw_skip (k4 _ _ ?_))
        unfold lim at hlim
        refine cw_region (sv (rv_add (r := ((i + 1 : Nat) : Int)) rfl rfl (by rw [IntKind.wrap_i64]; simp; omega)) (sv (mvv (.int .i64 ((i + 1 : Nat) : Int)) rfl) (W.e ?_)))
        exact ⟨_, by omega, i + 1, rfl, by omega, up.trans up2, by simpa using hr, ⟨rfl, rfl, rfl, rfl, trivial⟩⟩
    · refine cw_f rfl (by simp; omega) (cw_exit ?_)
      have : a0.drop i = [] := List.drop_eq_nil_of_le (by omega)
      rw [this] at hr
      exact ⟨up, (Option.some.inj hr).symm⟩
  · rintro ρ w1 ⟨up, rfl⟩
    refine cw_seq fun K1 k1 => ?_
    refine cw_region (sv (asv (.int .i64 (-1)) rfl) (W.e (k1 _ _ (cw_ret ?_))))
    exact ⟨_, rfl, rfl, up⟩


set_option maxRecDepth 100000 in
set_option maxHeartbeats 4000000 in
theorem slices_DeleteFunc_int_int_w {S : Nat → Prop} {w : World} {a0 : List Int} {v0 : Value} {base : Nat} {f : FuncId} {cs : List Value} {p : Int → Option Bool} {r : List Int} (hS : Sb S w) (h0 : Ow (kI .i64) 3 S base w v0 a0) (hc : CanE Tryz.prog f = true)
    (hf : ∀ x w' v, Up (Blk v0) w w' → Sl (kI .i64) S w' v x → ∀ b, p x = some b → Calls Tryz.prog f ([v] ++ cs).toArray w' fun e w1 => e = .returned (.bool b) ∧ Up No w' w1) (h : delF_ p a0 = some r) :
    Calls Tryz.prog 78 (List.toArray [v0, .func (.func f) #[] cs.toArray]) w fun e w1 => ∃ u0, e = .returned u0 ∧ Up (Blk v0) w w1 ∧ Ow (kI .i64) 3 S base w1 u0 r ∧ ∀ b, Blk u0 b → Blk v0 b ∨ w.heap.size ≤ b := by
  refine enter Tryz.func78 rfl (by kernel_rfl) rfl ?_
  have hlim : a0.length ≤ lim := h0.lim
  unfold lim at hlim
  refine cw_seq fun K0 k0 => ?_
  refine cw_region (sv (asv (.slice none 0 0) rfl) (W.e (k0 _ _ ?_)))
  refine cw_seq fun K1 k1 => ?_
  have hidx : ∃ y, indexFunc_ p a0 0 = some y := by
    rcases delF_split (k := 0) h with ⟨h1, _⟩ | ⟨_, _, _, _, _, h1, _⟩
    · exact ⟨_, h1⟩
    · exact ⟨_, h1⟩
  obtain ⟨y, hy⟩ := hidx
  refine cw_region (sv (mvv v0 rfl) (sv (mvv (.func (.func f) #[] cs.toArray) rfl) (sc (dc_call (vs := [v0, .func (.func f) #[] cs.toArray]) can96 rfl ?_))))
  refine (slices_IndexFunc_int_int_w (h0.sbO hS) h0.sealed hc (fun x w' v hu hx b hb => hf x w' v (hu.mono fun _ _ h => h.elim) (hx.flat flat_sc) b hb) hy).mono ?_
  rintro _ w1 ⟨rfl, up⟩
  refine ⟨_, rfl, sv (asv (.int .i64 y) rfl) (W.e (k1 _ _ ?_))⟩
  have hO := h0.nw up
  refine cw_seq fun K2 k2 => ?_
  refine cw_seq fun K3 k3 => ?_
  refine cw_region (sv (mvv (.int .i64 y) rfl) (sv (rv_eql rfl rfl) (W.e (k3 _ _ ?_))))
  rcases delF_split (k := 0) h with ⟨h1, rfl⟩ | ⟨A, x0, B, r2, hl0, h1, h2, hr⟩
  · obtain rfl := Option.some.inj (h1.symm.trans hy)
    refine cw_t rfl rfl ?_
    refine cw_seq fun K4 k4 => ?_
    refine cw_region (sv (mvv v0 rfl) (sv (asv v0 rfl) (W.e (k4 _ _ (cw_ret ?_)))))
    exact ⟨_, rfl, v0, rfl, up.mono fun _ _ h => h.elim, hO, fun b hb => .inl hb⟩
  rw [Int.zero_add] at h1
  obtain rfl := Option.some.inj (h1.symm.trans hy)
  have hAl : A.length + 1 ≤ a0.length := by rw [hl0]; simp only [List.length_append, List.length_cons]; omega
  refine cw_f rfl (by simp <;> omega) (cw_skip (k2 _ _ ?_))
  refine cw_seq' (fun ρ w2 => ∃ (i : Nat) (c : List Int), Up (Blk v0) w w2 ∧ Ow (kI .i64) 3 S base w2 v0 c ∧ i ≤ c.length ∧ c.take i = r ∧ Has ρ [(0, v0), (5, .int .i64 (i : Int))]) ?_ ?_
  · refine cw_seq fun K5 k5 => ?_
    refine cw_region (sv (mvv (.int .i64 ((A.length : Nat) : Int)) rfl) (sv (rv_add (r := ((A.length + 1 : Nat) : Int)) rfl rfl (by rw [IntKind.wrap_i64]; simp; omega)) (sv (asv (.int .i64 ((A.length + 1 : Nat) : Int)) rfl) (W.e (k5 _ _ ?_)))))
    refine cw_block (cw_loop (fun n ρ w2 => ∃ (i j : Nat) (c : List Int) (q : List Int), n = a0.length - j ∧ i < j ∧ j ≤ a0.length ∧ c.length = a0.length ∧ c.drop j = a0.drop j ∧ delF_ p (a0.drop j) = some q ∧ c.take i ++ q = r ∧ Up (Blk v0) w w2 ∧ Ow (kI .i64) 3 S base w2 v0 c ∧
        Has ρ [(0, v0), (1, .func (.func f) #[] cs.toArray), (5, .int .i64 (i : Int)), (6, .int .i64 (j : Int))]) _
      ⟨A.length, A.length + 1, a0, r2, rfl, by omega, hAl, rfl, rfl, by rw [hl0]; simpa using h2, by rw [hl0, hr]; simp, up.mono fun _ _ h => h.elim, hO, ⟨rfl, rfl, rfl, rfl, trivial⟩⟩ ?_)
    clear hO up h1 h2 hr hl0 hAl hy
    rintro n ρ w2 ⟨i, j, c, q, rfl, hij, hj, hcl, hcd, hd, hcr, up, hO, hh⟩
    refine hh.cw fun ρ => ?_
    clear hh
    refine cw_seq fun K7 k7 => ?_
    refine cw_seq fun K6 k6 => ?_
    refine cw_region (sv (mvv (.int .i64 (j : Int)) rfl) (sv (mvv v0 rfl) (sv (rv_lenS el49 hO.sealed rfl) (sv (rv_lss rfl rfl) (W.e (k6 _ _ ?_))))))
    by_cases hlt : j < a0.length
    · refine cw_t rfl (by rw [hcl]; simp; omega) (cw_skip (k7 _ _ ?_))
      obtain ⟨x, hx⟩ : ∃ x, c[j]? = some x := ⟨_, List.getElem?_eq_getElem (by omega)⟩
      have hax : a0[j]? = some x := by
        have h1 : (c.drop j)[0]? = c[j]? := by simp
        have h2 : (a0.drop j)[0]? = a0[j]? := by simp
        rw [← h2, ← hcd, h1, hx]
      have hat : at_ c (j : Int) = some x := by simp [at_, hx]
      have hdr : a0.drop j = x :: a0.drop (j + 1) := by
        have := List.drop_eq_getElem_cons hlt
        rw [List.getElem?_eq_getElem hlt] at hax
        rw [this, Option.some.inj hax]
      have hcd1 : c.drop (j + 1) = a0.drop (j + 1) := by
        have := congrArg (List.drop 1) hcd
        rw [List.drop_drop, List.drop_drop] at this
        exact this
      rw [hdr] at hd
      obtain ⟨b, hb, hd⟩ := bnd_some hd
      refine cw_seq fun K8 k8 => ?_
      refine cw_block ?_
      refine cw_seq fun K9 k9 => ?_
      obtain ⟨v, hv, hl⟩ := rw_loadO (P := Tryz.prog) el49 hO hat
      refine cw_region (sv (mvv v0 rfl) (sv (mvv (.int .i64 (j : Int)) rfl) (sv (rv_index el49 hO.sealed rfl rfl hat) (sr (hl _ (Sm.refl _ _) rfl) (sv (asv v rfl) (W.e (k9 _ _ ?_)))))))
      refine cw_seq fun K10 k10 => ?_
      refine cw_region (sv (mvv (.func (.func f) #[] cs.toArray) rfl) (sv (mvv v rfl) (sc (dc_callC (vs := [v]) rfl hc rfl ?_))))
      refine (hf x w2 v up hv b hb).mono ?_
      rintro _ w3 ⟨rfl, up2⟩
      refine ⟨_, rfl, sv (rv_not rfl) (W.e (k10 _ _ ?_))⟩
      replace hO := hO.nw up2
      replace hv := hv.nw up2
      replace up := up.trans (up2.mono fun _ _ h => h.elim)
      cases b with
      | true =>
        refine cw_f rfl rfl (cw_skip (k8 _ _ ?_))
        refine cw_region (sv (mvv (.int .i64 (j : Int)) rfl) (sv (rv_add (r := ((j + 1 : Nat) : Int)) rfl rfl (by rw [IntKind.wrap_i64]; simp; omega)) (sv (asv (.int .i64 ((j + 1 : Nat) : Int)) rfl) (W.e ?_))))
        exact ⟨_, by omega, i, j + 1, c, q, rfl, by omega, by omega, hcl, hcd1, hd, hcr, up, hO, ⟨rfl, rfl, rfl, rfl, trivial⟩⟩
      | false =>
        obtain ⟨q', hq, hd2⟩ := bnd_some hd
        cases hd2
        refine cw_t rfl rfl ?_
        refine cw_seq fun K11 k11 => ?_
        obtain ⟨z, hz⟩ : ∃ z, c[i]? = some z := ⟨_, List.getElem?_eq_getElem (by omega)⟩
        have haz : at_ c (i : Int) = some z := by simp [at_, hz]
        refine cw_region (sv (mvv v0 rfl) (sv (mvv (.int .i64 (i : Int)) rfl) (sv (mvv v rfl) (sv (rv_index el49 hO.sealed rfl rfl haz) (sc (dc_storeO el49 hO haz rfl rfl hv fun w4 hO2 up4 => ?_))))))
        refine W.e (k11 _ _ ?_)
        refine cw_region (sv (mvv (.int .i64 (i : Int)) rfl) (sv (rv_add (r := ((i + 1 : Nat) : Int)) rfl rfl (by rw [IntKind.wrap_i64]; simp; omega)) (sv (asv (.int .i64 ((i + 1 : Nat) : Int)) rfl) (W.e (k8 _ _ ?_)))))
        refine cw_region (sv (mvv (.int .i64 (j : Int)) rfl) (sv (rv_add (r := ((j + 1 : Nat) : Int)) rfl rfl (by rw [IntKind.wrap_i64]; simp; omega)) (sv (asv (.int .i64 ((j + 1 : Nat) : Int)) rfl) (W.e ?_))))
        have hti : (c.set ((i : Int).toNat) x).take (i + 1) = c.take i ++ [x] := by
          rw [Int.toNat_natCast, List.take_add_one, List.getElem?_set_self (by omega), List.take_set_of_le (Nat.le_refl _)]
          rfl
        refine ⟨_, by omega, i + 1, j + 1, c.set ((i : Int).toNat) x, q', rfl, by omega, by omega, by rw [List.length_set]; exact hcl, ?_, hq, ?_, up.trans up4, hO2, ⟨rfl, rfl, rfl, rfl, trivial⟩⟩
        · rw [Int.toNat_natCast, List.drop_set_of_lt (by omega)]
          exact hcd1
        · rw [hti, List.append_assoc]
          exact hcr
    · refine cw_f rfl (by rw [hcl]; simp; omega) (cw_exit ?_)
      have h0 : a0.drop j = [] := List.drop_eq_nil_of_le (by omega)
      rw [h0] at hd
      cases hd
      rw [List.append_nil] at hcr
      exact ⟨i, c, up, hO, by omega, hcr, ⟨rfl, rfl, trivial⟩⟩
  · rintro ρ w2 ⟨i, c, up, hO, hic, hr, hh⟩
    refine hh.cw fun ρ => ?_
    clear hh
    obtain ⟨Av, cp, hv0, hcp, -, -⟩ := sl_slice.1 hO.sealed
    refine cw_seq fun K12 k12 => ?_
    refine cw_region (sv (mvv v0 rfl) (sv (mvv (.int .i64 (i : Int)) rfl) (sv (rv_suf el49 (Int.natCast_nonneg i) (by simpa using hic) hcp (Eq.trans (b := v0) rfl hv0) rfl) (sc (dc_clearO el49 zr3 (by intro c hc; rw [List.mem_singleton.1 hc]; rfl) hO (upto_take hic) (fun A' n' c' e => by obtain ⟨rfl, rfl, rfl⟩ := Value.slice.inj (hv0.symm.trans e); rfl) fun w3 u hu hub hur up3 => ?_)))))
    refine W.e (k12 _ _ ?_)
    refine cw_seq fun K13 k13 => ?_
    refine cw_region (sv (mvv v0 rfl) (sv (mvv (.int .i64 (i : Int)) rfl) (sv (hur rfl rfl) (sv (asv u rfl) (W.e (k13 _ _ (cw_ret ?_)))))))
    rw [hr] at hu
    exact ⟨_, rfl, u, rfl, up.trans up3, hu, fun b hb => .inl (hub b hb)⟩


set_option maxRecDepth 100000 in
set_option maxHeartbeats 4000000 in
theorem slices_IndexFunc_api_Label_api_Label_w {S : Nat → Prop} {w : World} {a0 : List api_Label} {v0 : Value} {f : FuncId} {cs : List Value} {p : api_Label → Option Bool} {r : Int} (hS : Sb S w) (h0 : Sl (kSl api_Label.k) S w v0 a0) (hc : CanE Tryz.prog f = true)
    (hf : ∀ x w' v, Up No w w' → Sl api_Label.k S w' v x → ∀ b, p x = some b → Calls Tryz.prog f ([v] ++ cs).toArray w' fun e w1 => e = .returned (.bool b) ∧ Up No w' w1) (h : indexFunc_ p a0 0 = some r) :
    Calls Tryz.prog 124 (List.toArray [v0, .func (.func f) #[] cs.toArray]) w fun e w1 => e = .returned (.int .i64 r) ∧ Up No w w1 := by
  refine enter Tryz.func124 rfl (by kernel_rfl) rfl ?_
  have hlim : a0.length ≤ lim := by obtain ⟨_, _, _, _, hl, _⟩ := sl_slice.1 h0; exact hl
  refine cw_seq fun K0 k0 => ?_
  refine cw_region (sv (asv (.int .i64 0) rfl) (W.e (k0 _ _ ?_)))
  refine cw_seq' (fun ρ w1 => Up No w w1 ∧ r = -1) ?_ ?_
  · refine cw_seq fun K1 k1 => ?_
    refine cw_region (sv (mvv v0 rfl) ?_)
    refine sv (rv_lenS el31 h0 rfl) (sv (mvv (.int .i64 0) rfl) (W.e (k1 _ _ ?_)))
    refine cw_block (cw_loop (fun n ρ w1 => ∃ i, n = a0.length - i ∧ i ≤ a0.length ∧ Up No w w1 ∧ indexFunc_ p (a0.drop i) (i : Int) = some r ∧ Has ρ [(0, v0), (1, .func (.func f) #[] cs.toArray), (7, .int .i64 (a0.length : Int)), (8, .int .i64 (i : Int))]) _ ⟨0, rfl, Nat.zero_le _, Up.refl _ _, h, ⟨rfl, rfl, rfl, rfl, trivial⟩⟩ ?_)
    rintro n ρ w1 ⟨i, rfl, hi, up, hr, hh⟩
    refine hh.cw fun ρ => ?_
    clear hh
    refine cw_seq fun K2 k2 => ?_
    refine cw_region (sv (rv_lss rfl rfl) (W.e (k2 _ _ ?_)))
    refine cw_seq fun K3 k3 => ?_
    by_cases hlt : i < a0.length
    · refine cw_t rfl (by simp; omega) (cw_skip (k3 _ _ ?_))
      obtain ⟨x, hx⟩ : ∃ x, a0[i]? = some x := ⟨_, List.getElem?_eq_getElem hlt⟩
      have hat : at_ a0 (i : Int) = some x := by simp [at_, hx]
      have hd : a0.drop i = x :: a0.drop (i + 1) := by
        have := List.drop_eq_getElem_cons hlt
        rw [List.getElem?_eq_getElem hlt] at hx
        rw [this, Option.some.inj hx]
      rw [hd] at hr
      obtain ⟨b, hb, hr⟩ := bnd_some hr
      refine cw_seq fun K4 k4 => ?_
      refine cw_block ?_
      refine cw_seq fun K5 k5 => ?_
      refine cw_region (sv (mvv (.int .i64 (i : Int)) rfl) (sv (asv (.int .i64 (i : Int)) rfl) (W.e (k5 _ _ ?_))))
      refine cw_seq fun K6 k6 => ?_
      have h1 := h0.nw up
      refine cw_region (sv (mvv (.func (.func f) #[] cs.toArray) rfl) (sv (mvv v0 rfl) (sv (mvv (.int .i64 (i : Int)) rfl) ?_)))
      refine sv (rv_index el31 h1 rfl rfl hat) ?_
      obtain ⟨v, hv, hl⟩ := rw_loadA (P := Tryz.prog) el31 h1 hat
      refine sr (hl _ (Sm.refl _ _) rfl) ?_
      refine sc (dc_callC (vs := [v]) rfl hc rfl ?_)
      refine (hf x w1 v up hv b hb).mono ?_
      rintro _ w2 ⟨rfl, up2⟩
      refine ⟨_, rfl, W.e (k6 _ _ ?_)⟩
      cases b with
      | true =>
        refine cw_t rfl rfl ?_
        refine cw_seq fun K7 k7 => ?_
        refine cw_region (sv (mvv (.int .i64 (i : Int)) rfl) (sv (asv (.int .i64 (i : Int)) rfl) (W.e (k7 _ _ (cw_ret ?_)))))
        obtain rfl := Option.some.inj hr
        exact ⟨_, rfl, rfl, up.trans up2⟩
      | false =>
        refine cw_f rfl rfl (cw_skip (k4 _ _ ?_))
        unfold lim at hlim
        refine cw_region (sv (rv_add (r := ((i + 1 : Nat) : Int)) rfl rfl (by rw [IntKind.wrap_i64]; simp; omega)) (sv (mvv (.int .i64 ((i + 1 : Nat) : Int)) rfl) (W.e ?_)))
        exact ⟨_, by omega, i + 1, rfl, by omega, up.trans up2, by simpa using hr, ⟨rfl, rfl, rfl, rfl, trivial⟩⟩
    · refine cw_f rfl (by simp; omega) (cw_exit ?_)
      have : a0.drop i = [] := List.drop_eq_nil_of_le (by omega)
      rw [this] at hr
      exact ⟨up, (Option.some.inj hr).symm⟩
  · rintro ρ w1 ⟨up, rfl⟩
    refine cw_seq fun K1 k1 => ?_
    refine cw_region (sv (asv (.int .i64 (-1)) rfl) (W.e (k1 _ _ (cw_ret ?_))))
    exact ⟨_, rfl, rfl, up⟩

noncomputable def label_Get_1 (a0 : api_Label) (q0 : ByteArray) : Option Bool :=
  some (strEq a0.Name q0)
set_option maxRecDepth 100000 in
set_option maxHeartbeats 4000000 in
theorem label_Get_1_w {S : Nat → Prop} {w : World} {a0 : api_Label} {q0 : ByteArray} {v0 : Value} {bb0 : Nat} {r : Bool} (hS : Sb S w) (h0 : Sl api_Label.k S w v0 a0) (hb0 : Bs S w bb0 [.string q0] 9) (h : label_Get_1 a0 q0 = some r) :
    Calls Tryz.prog 125 (List.toArray [v0, .pointer (some ⟨bb0, 0, none⟩)]) w fun e w1 => ∃ S1, e = .returned (.bool r) ∧ Cx No S w S1 w1 := by
  refine enter Tryz.func125 rfl (by kernel_rfl) rfl ?_
  have C := Cx.refl (F := No) hS
  unfold label_Get_1 at h
  obtain rfl := api_Label.o.1 h0
  refine cw_seq fun K1 k2 => ?_
  refine cw_region ?_
  refine sc (dc_boxS C.sb rfl fun b3 S4 w5 c6 h7 => ?_)
  replace hb0 := hb0.cx c6
  replace C := C.trans c6
  refine sv (asv (.bool false) rfl) (W.e (k2 _ _ ?_))
  refine cw_seq fun K9 k10 => ?_
  refine cw_region (sv (rv_fieldAddr st46 rfl rfl) (sr (rw_bk ag9 h7.2 rfl rfl) (sr (rw_bk ag9 hb0.2 rfl rfl) (sv (rv_seql rfl rfl) (sv (asv (.bool (strEq a0.Name q0)) rfl) (W.e (k10 _ _ (cw_ret ?_))))))))
  obtain rfl := Option.some.inj h
  exact ⟨_, rfl, _, rfl, C⟩

noncomputable def label_Get (a0 : List api_Label) (a1 : ByteArray) : Option (ByteArray × Bool) :=
  ((indexFunc_ (fun x => label_Get_1 x a1) a0 0).bind fun y11 => (bif (decide (y11 < (0 : Int))) then some (ByteArray.empty, false) else ((at_ a0 y11).bind fun y24 => some (y24.Val, true))))
set_option maxRecDepth 100000 in
set_option maxHeartbeats 4000000 in
theorem label_Get_w {S : Nat → Prop} {w : World} {a0 : List api_Label} {a1 : ByteArray} {v0 : Value} {r : ByteArray × Bool} (hS : Sb S w) (h0 : Sl (kSl api_Label.k) S w v0 a0) (h : label_Get a0 a1 = some r) :
    Calls Tryz.prog 97 (List.toArray [v0, .string a1]) w fun e w1 => ∃ S1, e = .returned (.tuple (List.toArray [.string r.1, .bool r.2])) ∧ Cx No S w S1 w1 := by
  refine enter Tryz.func97 rfl (by kernel_rfl) rfl ?_
  have C := Cx.refl (F := No) hS
  unfold label_Get at h
  refine cw_seq fun K1 k2 => ?_
  refine cw_region ?_
  refine sc (dc_boxS C.sb rfl fun b3 S4 w5 c6 h7 => ?_)
  replace h0 := h0.cx c6
  replace C := C.trans c6
  refine sv (asv (.string ByteArray.empty) rfl) (sv (asv (.bool false) rfl) (W.e (k2 _ _ ?_)))
  refine cw_seq fun K9 k10 => ?_
  refine cw_region (sv (mvv v0 rfl) (sv (rv_mkfn (vs := [.pointer (some ⟨b3, 0, none⟩)]) rfl) ?_))
  obtain ⟨y11, h12, h⟩ := bnd_some h
  refine sc (dc_call (vs := [v0, .func (.func 125) #[] (List.toArray [.pointer (some ⟨b3, 0, none⟩)])]) can124 rfl ?_)
  have h12f : ∀ (x : api_Label) (w' : World) (v : Value), Up No w5 w' → Sl api_Label.k S4 w' v x → ∀ b, label_Get_1 x a1 = some b → Calls Tryz.prog 125 (List.toArray ([v] ++ [.pointer (some ⟨b3, 0, none⟩)])) w' (fun e w1 => e = .returned (.bool b) ∧ Up No w' w1) := fun x w' v hu hx b hb => by skip; exact (label_Get_1_w (C.sb.up hu) hx (h7.nw hu) hb).mono fun e w1 hp => (by obtain ⟨S1, rfl, c⟩ := hp; exact ⟨rfl, c.up⟩ : e = .returned (.bool b) ∧ Up No w' w1)
  refine (slices_IndexFunc_api_Label_api_Label_w C.sb h0 can125 h12f h12).mono ?_
  rintro _ w13 ⟨rfl, u14⟩
  refine ⟨_, rfl, ?_⟩
  replace h0 := h0.nw u14
  replace C := C.new u14
  refine sv (asv (.int .i64 y11) rfl) (W.e (k10 _ _ ?_))
  refine cw_seq fun K15 k16 => ?_
  refine cw_seq fun K17 k18 => ?_
  refine cw_region (sv (mvv (.int .i64 y11) rfl) (sv (rv_lss rfl rfl) (W.e (k18 _ _ ?_))))
  rcases bif_some h with ⟨b19, h⟩ | ⟨b19, h⟩
  · refine cw_t rfl b19 ?_
    refine cw_seq fun K20 k21 => ?_
    refine cw_region (sv (asv (.string ByteArray.empty) rfl) (sv (asv (.bool false) rfl) (W.e (k21 _ _ (cw_ret ?_)))))
    obtain rfl := Option.some.inj h
    exact ⟨_, rfl, _, rfl, C⟩
  · refine cw_f rfl b19 (cw_skip (k16 _ _ ?_))
    refine cw_seq fun K22 k23 => ?_
    refine cw_region (sv (mvv v0 rfl) (sv (mvv (.int .i64 y11) rfl) ?_))
    obtain ⟨y24, h25, h⟩ := bnd_some h
    refine sv (rv_index el31 h0 rfl rfl h25) (sv (rv_fieldAddr st46 rfl rfl) ?_)
    obtain ⟨cs26, h27, h28⟩ := Sl.cells h0 h25
    obtain rfl := api_Label.r.1 h27
    refine sr (rw_el1 (off := 1) ag9 (h28 _ (Sm.refl _ _)) rfl rfl) (sv (asv (.string y24.Val) rfl) (sv (asv (.bool true) rfl) (W.e (k23 _ _ (cw_ret ?_)))))
    obtain rfl := Option.some.inj h
    exact ⟨_, rfl, _, rfl, C⟩

noncomputable def internal_stringslite_HasPrefix (a0 : ByteArray) (a1 : ByteArray) : Option Bool :=
  ((bif (decide ((a1.size : Int) ≤ (a0.size : Int))) then ((supto_ a0 (a1.size : Int)).bind fun y8 => some (strEq y8 a1)) else some false).bind fun o3 => some o3)
set_option maxRecDepth 100000 in
set_option maxHeartbeats 4000000 in
theorem internal_stringslite_HasPrefix_w {S : Nat → Prop} {w : World} {a0 : ByteArray} {a1 : ByteArray} {r : Bool} (hS : Sb S w)  (h : internal_stringslite_HasPrefix a0 a1 = some r) :
    Calls Tryz.prog 126 (List.toArray [.string a0, .string a1]) w fun e w1 => ∃ S1, e = .returned (.bool r) ∧ Cx No S w S1 w1 := by
  refine enter Tryz.func126 rfl (by kernel_rfl) rfl ?_
  have C := Cx.refl (F := No) hS
  unfold internal_stringslite_HasPrefix at h
  refine cw_seq fun K1 k2 => ?_
  refine cw_region (sv (asv (.bool false) rfl) (W.e (k2 _ _ ?_)))
  obtain ⟨o3, h6, h⟩ := bnd_some h
  refine cw_seq' (fun ρ w1 => ∃ S1, Cx No S w S1 w1 ∧ Has ρ [(4, .bool o3)]) ?_ ?_
  · refine cw_region (sv (mvv (.string a0) rfl) (sv (rv_slen Tryz.underlying9 rfl) (sv (mvv (.string a1) rfl) (sv (rv_slen Tryz.underlying9 rfl) (sv (rv_geq rfl rfl) (sv (mvv (.bool (decide ((a1.size : Int) ≤ (a0.size : Int)))) rfl) ?_))))))
    rcases bif_some h6 with ⟨b7, h6⟩ | ⟨b7, h6⟩
    · refine W.v (gy rfl rfl rfl b7) (mvv (.string a0) rfl) (W.v (gy rfl rfl rfl b7) (mvv (.string a1) rfl) (W.v (gy rfl rfl rfl b7) (rv_slen Tryz.underlying9 rfl) ?_))
      obtain ⟨y8, h9, h6⟩ := bnd_some h6
      refine W.v (gy rfl rfl rfl b7) (rv_supto Tryz.underlying9 rfl rfl h9) (W.v (gy rfl rfl rfl b7) (mvv (.string a1) rfl) (W.v (gy rfl rfl rfl b7) (rv_seql rfl rfl) (sv (ptk (.bool (strEq y8 a1)) rfl b7 rfl) (sv (asv (.bool (strEq y8 a1)) rfl) (W.e ?_)))))
      obtain rfl := Option.some.inj h6
      exact ⟨_, C, ⟨rfl, trivial⟩⟩
    · refine W.n (gn rfl rfl rfl b7) (W.n (gn rfl rfl rfl b7) (W.n (gn rfl rfl rfl b7) (W.n (gn rfl rfl rfl b7) (W.n (gn rfl rfl rfl b7) (W.n (gn rfl rfl rfl b7) (sv (pfk (.bool false) rfl b7 rfl) (sv (asv (.bool false) rfl) (W.e ?_))))))))
      obtain rfl := Option.some.inj h6
      exact ⟨_, C, ⟨rfl, trivial⟩⟩
  · rintro ρ w11 ⟨S10, C, h12⟩
    refine h12.cw fun ρ => ?_
    clear h12
    refine cw_ret ?_
    obtain rfl := Option.some.inj h
    exact ⟨_, rfl, _, rfl, C⟩

noncomputable def strings_HasPrefix (a0 : ByteArray) (a1 : ByteArray) : Option Bool :=
  ((internal_stringslite_HasPrefix a0 a1).bind fun y5 => some y5)
set_option maxRecDepth 100000 in
set_option maxHeartbeats 4000000 in
theorem strings_HasPrefix_w {S : Nat → Prop} {w : World} {a0 : ByteArray} {a1 : ByteArray} {r : Bool} (hS : Sb S w)  (h : strings_HasPrefix a0 a1 = some r) :
    Calls Tryz.prog 98 (List.toArray [.string a0, .string a1]) w fun e w1 => ∃ S1, e = .returned (.bool r) ∧ Cx No S w S1 w1 := by
  refine enter Tryz.func98 rfl (by kernel_rfl) rfl ?_
  have C := Cx.refl (F := No) hS
  unfold strings_HasPrefix at h
  refine cw_seq fun K1 k2 => ?_
  refine cw_region (sv (asv (.bool false) rfl) (W.e (k2 _ _ ?_)))
  refine cw_seq fun K3 k4 => ?_
  refine cw_region (sv (mvv (.string a0) rfl) (sv (mvv (.string a1) rfl) ?_))
  obtain ⟨y5, h6, h⟩ := bnd_some h
  refine sc (dc_call (vs := [.string a0, .string a1]) can126 rfl ?_)
  refine (internal_stringslite_HasPrefix_w C.sb  h6).mono ?_
  rintro _ w7 ⟨S8, rfl, c9⟩
  refine ⟨_, rfl, ?_⟩
  replace C := C.trans c9
  refine sv (asv (.bool y5) rfl) (W.e (k4 _ _ (cw_ret ?_)))
  obtain rfl := Option.some.inj h
  exact ⟨_, rfl, _, rfl, C⟩

noncomputable def match_One (a0 : api_Ask) (a1 : List api_Label) : Option Bool :=
  ((label_Get a1 a0.Name).bind fun y11 => ((bif (a0.Op == (2 : Int)) then ((bif (!y11.2) then some true else some (!strEq y11.1 a0.Val)).bind fun o25 => some (.inr o25)) else (bif (a0.Op == (1 : Int)) then (bif y11.2 then some (.inl (strEq y11.1 a0.Val)) else some (.inl false)) else (bif (a0.Op == (3 : Int)) then (bif y11.2 then ((strings_HasPrefix y11.1 a0.Val).bind fun y41 => some (.inl y41)) else some (.inl false)) else (bif (a0.Op == (4 : Int)) then some (.inl y11.2) else some (.inr false))))).bind (Sum.elim (fun o16n => some o16n) (fun q => some q))))
set_option maxRecDepth 100000 in
set_option maxHeartbeats 4000000 in
theorem match_One_w {S : Nat → Prop} {w : World} {a0 : api_Ask} {a1 : List api_Label} {v0 v1 : Value} {r : Bool} (hS : Sb S w) (h0 : Sl api_Ask.k S w v0 a0) (h1 : Sl (kSl api_Label.k) S w v1 a1) (h : match_One a0 a1 = some r) :
    Calls Tryz.prog 80 (List.toArray [v0, v1]) w fun e w1 => ∃ S1, e = .returned (.bool r) ∧ Cx No S w S1 w1 := by
  refine enter Tryz.func80 rfl (by kernel_rfl) rfl ?_
  have C := Cx.refl (F := No) hS
  unfold match_One at h
  obtain rfl := api_Ask.o.1 h0
  refine cw_seq fun K1 k2 => ?_
  refine cw_region ?_
  refine sc (dc_boxS C.sb rfl fun b3 S4 w5 c6 h7 => ?_)
  replace h1 := h1.cx c6
  replace C := C.trans c6
  refine sv (asv (.bool false) rfl) (W.e (k2 _ _ ?_))
  refine cw_seq fun K9 k10 => ?_
  refine cw_region (sv (mvv v1 rfl) (sv (rv_fieldAddr st53 rfl rfl) (sr (rw_bk ag9 h7.2 rfl rfl) ?_)))
  obtain ⟨y11, h12, h⟩ := bnd_some h
  refine sc (dc_call (vs := [v1, .string a0.Name]) can97 rfl ?_)
  refine (label_Get_w C.sb h1 h12).mono ?_
  rintro _ w13 ⟨S14, rfl, c15⟩
  refine ⟨_, rfl, ?_⟩
  replace h7 := h7.cx c15
  replace C := C.trans c15
  refine sv (mvv (.tuple (List.toArray [.string y11.1, .bool y11.2])) rfl) (sv (rv_extract rfl rfl) (sv (rv_extract rfl rfl) (sv (asv (.string y11.1) rfl) (sv (asv (.bool y11.2) rfl) (W.e (k10 _ _ ?_))))))
  obtain ⟨o16, h19, h⟩ := bnds_some h
  refine cw_seq' (fun ρ w1 => ∃ o16n, o16 = (.inl o16n) ∧ ∃ S1, Cx No S w S1 w1 ∧ Has ρ [(6, .bool o16n)]) ?_ ?_
  · refine cw_seq fun K20 k21 => ?_
    refine cw_region (sv (rv_fieldAddr st53 rfl rfl) (sr (rw_bk ag5 h7.2 rfl rfl) (W.e (k21 _ _ (cw_block ?_)))))
    refine cw_seq fun K22 k23 => ?_
    refine cw_region (sv (rv_eql rfl rfl) (sv (asv (.bool (a0.Op == (2 : Int))) rfl) (W.e (k23 _ _ ?_))))
    rcases bif_some h19 with ⟨b24, h19⟩ | ⟨b24, h19⟩
    · refine cw_t rfl b24 ?_
      obtain ⟨o25, h28, h19⟩ := bnd_some h19
      refine cw_seq' (fun ρ w1 => ∃ S1, Cx No S w S1 w1 ∧ Has ρ [(4, .bool o25)]) ?_ ?_
      · refine cw_region (sv (mvv (.bool y11.2) rfl) (sv (rv_not rfl) (sv (mvv (.bool (!y11.2)) rfl) ?_)))
        rcases bif_some h28 with ⟨b29, h28⟩ | ⟨b29, h28⟩
        · refine W.n (gn rfl rfl rfl b29) (W.n (gn rfl rfl rfl b29) (W.n (gn rfl rfl rfl b29) (W.n (gn rfl rfl rfl b29) (sv (ptk (.bool true) rfl b29 rfl) (sv (asv (.bool true) rfl) (W.e ?_))))))
          obtain rfl := Option.some.inj h28
          exact ⟨_, C, ⟨rfl, trivial⟩⟩
        · refine W.v (gy rfl rfl rfl b29) (mvv (.string y11.1) rfl) (W.v (gy rfl rfl rfl b29) (rv_fieldAddr st53 rfl rfl) (W.r (gy rfl rfl rfl b29) (rw_bk ag9 h7.2 rfl rfl) (W.v (gy rfl rfl rfl b29) (rv_sneq rfl rfl) (sv (pfk (.bool (!strEq y11.1 a0.Val)) rfl b29 rfl) (sv (asv (.bool (!strEq y11.1 a0.Val)) rfl) (W.e ?_))))))
          obtain rfl := Option.some.inj h28
          exact ⟨_, C, ⟨rfl, trivial⟩⟩
      · rintro ρ w31 ⟨S30, C, h32⟩
        refine h32.cw fun ρ => ?_
        clear h32
        refine cw_ret ?_
        obtain rfl := Option.some.inj h19
        replace h := h.2 _ rfl
        obtain rfl := Option.some.inj h
        exact ⟨_, rfl, _, rfl, C⟩
    · refine cw_f rfl b24 ?_
      refine cw_seq fun K33 k34 => ?_
      refine cw_region (sv (rv_eql rfl rfl) (sv (asv (.bool (a0.Op == (1 : Int))) rfl) (W.e (k34 _ _ ?_))))
      rcases bif_some h19 with ⟨b35, h19⟩ | ⟨b35, h19⟩
      · refine cw_t rfl b35 (cw_region (sv (mvv (.bool y11.2) rfl) (sv (mvv (.bool y11.2) rfl) ?_)))
        rcases bif_some h19 with ⟨b36, h19⟩ | ⟨b36, h19⟩
        · refine W.v (gy rfl rfl rfl b36) (mvv (.string y11.1) rfl) (W.v (gy rfl rfl rfl b36) (rv_fieldAddr st53 rfl rfl) (W.r (gy rfl rfl rfl b36) (rw_bk ag9 h7.2 rfl rfl) (W.v (gy rfl rfl rfl b36) (rv_seql rfl rfl) (sv (ptk (.bool (strEq y11.1 a0.Val)) rfl b36 rfl) (sv (asv (.bool (strEq y11.1 a0.Val)) rfl) (W.e ?_))))))
          obtain rfl := Option.some.inj h19
          exact ⟨_, rfl, ⟨_, C, ⟨rfl, trivial⟩⟩⟩
        · refine W.n (gn rfl rfl rfl b36) (W.n (gn rfl rfl rfl b36) (W.n (gn rfl rfl rfl b36) (W.n (gn rfl rfl rfl b36) (sv (pfk (.bool false) rfl b36 rfl) (sv (asv (.bool false) rfl) (W.e ?_))))))
          obtain rfl := Option.some.inj h19
          exact ⟨_, rfl, ⟨_, C, ⟨rfl, trivial⟩⟩⟩
      · refine cw_f rfl b35 ?_
        refine cw_seq fun K37 k38 => ?_
        refine cw_region (sv (rv_eql rfl rfl) (sv (asv (.bool (a0.Op == (3 : Int))) rfl) (W.e (k38 _ _ ?_))))
        rcases bif_some h19 with ⟨b39, h19⟩ | ⟨b39, h19⟩
        · refine cw_t rfl b39 (cw_region (sv (mvv (.bool y11.2) rfl) (sv (mvv (.bool y11.2) rfl) ?_)))
          rcases bif_some h19 with ⟨b40, h19⟩ | ⟨b40, h19⟩
          · refine W.v (gy rfl rfl rfl b40) (mvv (.string y11.1) rfl) (W.v (gy rfl rfl rfl b40) (rv_fieldAddr st53 rfl rfl) (W.r (gy rfl rfl rfl b40) (rw_bk ag9 h7.2 rfl rfl) ?_))
            obtain ⟨y41, h42, h19⟩ := bnd_some h19
            refine W.c (gy rfl rfl rfl b40) (dc_call (vs := [.string y11.1, .string a0.Val]) can98 rfl ?_)
            refine (strings_HasPrefix_w C.sb  h42).mono ?_
            rintro _ w43 ⟨S44, rfl, c45⟩
            refine ⟨_, rfl, ?_⟩
            replace C := C.trans c45
            refine sv (ptk (.bool y41) rfl b40 rfl) (sv (asv (.bool y41) rfl) (W.e ?_))
            obtain rfl := Option.some.inj h19
            exact ⟨_, rfl, ⟨_, C, ⟨rfl, trivial⟩⟩⟩
          · refine W.n (gn rfl rfl rfl b40) (W.n (gn rfl rfl rfl b40) (W.n (gn rfl rfl rfl b40) (W.n (gn rfl rfl rfl b40) (sv (pfk (.bool false) rfl b40 rfl) (sv (asv (.bool false) rfl) (W.e ?_))))))
            obtain rfl := Option.some.inj h19
            exact ⟨_, rfl, ⟨_, C, ⟨rfl, trivial⟩⟩⟩
        · refine cw_f rfl b39 ?_
          refine cw_seq fun K46 k47 => ?_
          refine cw_region (sv (rv_eql rfl rfl) (sv (asv (.bool (a0.Op == (4 : Int))) rfl) (W.e (k47 _ _ ?_))))
          rcases bif_some h19 with ⟨b48, h19⟩ | ⟨b48, h19⟩
          · refine cw_t rfl b48 (cw_skip ?_)
            obtain rfl := Option.some.inj h19
            exact ⟨_, rfl, ⟨_, C, ⟨rfl, trivial⟩⟩⟩
          · refine cw_f rfl b48 ?_
            refine cw_seq fun K49 k50 => ?_
            refine cw_region (sv (asv (.bool false) rfl) (W.e (k50 _ _ (cw_ret ?_))))
            obtain rfl := Option.some.inj h19
            replace h := h.2 _ rfl
            obtain rfl := Option.some.inj h
            exact ⟨_, rfl, _, rfl, C⟩
  · rintro ρ w52 ⟨o16n, rfl, ⟨S51, C, h53⟩⟩
    replace h := h.1 _ rfl
    refine h53.cw fun ρ => ?_
    clear h53
    refine cw_seq fun K54 k55 => ?_
    refine cw_region (sv (mvv (.bool o16n) rfl) (sv (asv (.bool o16n) rfl) (W.e (k55 _ _ (cw_ret ?_)))))
    obtain rfl := Option.some.inj h
    exact ⟨_, rfl, _, rfl, C⟩

noncomputable def index_Index_one_1 (a0 : Int) (q0 : api_Ask) (q1 : index_Index) : Option Bool :=
  ((match_One q0 ((mget a0 q1.series).getD ([] : List api_Label))).bind fun y15 => some (!y15))
set_option maxRecDepth 100000 in
set_option maxHeartbeats 4000000 in
theorem index_Index_one_1_w {S : Nat → Prop} {w : World} {a0 : Int} {q0 : api_Ask} {q1 : index_Index} {vq1 : Value} {bb0 : Nat} {csq1 : List Value} {fpq1 : List Nat} {bb1 : Nat} {r : Bool} (hS : Sb S w) (hb0 : Bs S w bb0 [.int .u8 q0.Op, .string q0.Name, .string q0.Val] 53) (hq1 : Ob 61 (index_Index.fs q1) S w vq1 csq1 fpq1) (hb1 : Bs S w bb1 [vq1] 24) (h : index_Index_one_1 a0 q0 q1 = some r) :
    Calls Tryz.prog 79 (List.toArray [.int .i64 a0, .pointer (some ⟨bb0, 0, none⟩), .pointer (some ⟨bb1, 0, none⟩)]) w fun e w1 => ∃ S1, e = .returned (.bool r) ∧ Cx No S w S1 w1 := by
  refine enter Tryz.func79 rfl (by kernel_rfl) rfl ?_
  have C := Cx.refl (F := No) hS
  unfold index_Index_one_1 at h
  have hlq1 : ∀ b ∈ fpq1, b < w.heap.size := fun b hb => (hq1.lt b hb).1
  refine cw_seq fun K1 k2 => ?_
  refine cw_region (sv (asv (.bool false) rfl) (W.e (k2 _ _ ?_)))
  refine cw_seq fun K3 k4 => ?_
  refine cw_drawU (.one 0 true (.one 1 true (.one 2 true (.one 3 true (.one 4 true (.one 5 true (.one 6 true (.one 7 false (.one 8 true (.one 9 true .done)))))))))) [(0, [9]), (1, [9]), (4, [9]), (6, [9])] [(7, [9])] (fun c => bif Nat.beq c 9 then (fun _ => True) else No) fol (by kernel_rfl) fun w5 u6 => ?_
  replace hb0 := hb0.nw u6
  replace hb1 := hb1.nw u6
  replace hq1 := hq1.nw u6
  replace C := C.new u6
  have hb0d := hb0
  have hb1d := hb1
  have hq1d := hq1
  have m7 := Sm.refl (fun _ => True) w5
  refine mtr rfl rfl ⟨m7, trivial⟩ (fun w' hq => rw_bkA ag53 (hb0.sm (hq.1.mono fun _ _ => trivial)) rfl rfl rfl) (mtr rfl rfl ⟨m7, trivial⟩ (fun w' hq => rw_bk ag24 (hb1.sm (hq.1.mono fun _ _ => trivial)) rfl rfl) (mtv rfl rfl (rv_nilcheck rfl hq1.ptr) (mtv rfl rfl (rv_fieldAddr (b := pb vq1) (o := 0) st61 rfl hq1.ptr) ?_)))
  obtain ⟨c8, h9⟩ := hq1.at (i := 0) rfl
  refine mtr rfl rfl ⟨m7, trivial⟩ (fun w' hq => rw_ofieldU (i := 0) (c := c8) hq1 (hq.1.mono fun _ _ => trivial) ag56 h9 rfl) (mtv rfl rfl (mvv (.int .i64 a0) rfl) ?_)
  obtain ⟨_, h10, h11⟩ := Ob.rep hq1 (i := 0) rfl h9
  obtain ⟨v12, h13, h14⟩ := rep_look (P := Tryz.prog) (tm := 56) (te := 31) (y0 := ([] : List api_Label)) h10 Tryz.underlying56 zv31 (sl_nil _ _ _) a0
  refine mtr rfl rfl ⟨m7, trivial⟩ (fun w' hq => (h14 (hq.1.mono fun _ _ => trivial) rfl rfl).1) ?_
  obtain ⟨y15, h16, h⟩ := bnd_some h
  refine mtc rfl rfl (dc_call (vs := [.agg (List.toArray [.int .u8 q0.Op, .string q0.Name, .string q0.Val]), v12]) can80 rfl ?_)
  refine (match_One_w C.sb ((api_Ask.o (x := q0)).2 rfl) h13 h16).mono ?_
  rintro _ w17 ⟨S18, rfl, c19⟩
  refine ⟨_, rfl, ?_⟩
  replace C := C.trans c19
  have z20 := (c19.up).size
  have m21 := m7.nx c19.up (by omega)
  refine ⟨⟨m21, trivial⟩, ?_⟩
  refine mtv rfl rfl (rv_not rfl) (mtv rfl rfl (asv (.bool (!y15)) rfl) (MT.e (k4 _ _ (cw_ret ?_))))
  obtain rfl := Option.some.inj h
  exact ⟨_, rfl, _, rfl, C⟩

noncomputable def index_Index_one (a0 : index_Index) (a1 : api_Ask) : Option (List Int) :=
  (bif (a1.Op == (1 : Int)) then some ((mget (api_Label.mk a1.Name a1.Val) a0.posts).getD ([] : List Int)) else (bif (a1.Op == (2 : Int)) then ((index_Index_all a0).bind fun y61 => ((post_Minus y61 ((mget (api_Label.mk a1.Name a1.Val) a0.posts).getD ([] : List Int))).bind fun y70 => some y70.1)) else (bif (a1.Op == (4 : Int)) then some ((mget a1.Name a0.names).getD ([] : List Int)) else ((slices_Clone_int_int ((mget a1.Name a0.names).getD ([] : List Int))).bind fun y88 => ((delF_ (fun x => index_Index_one_1 x a1 a0) y88).bind fun y96 => some y96)))))
set_option maxRecDepth 100000 in
set_option maxHeartbeats 4000000 in
theorem index_Index_one_w {S : Nat → Prop} {w : World} {a0 : index_Index} {a1 : api_Ask} {v0 v1 : Value} {cs0 : List Value} {fp0 : List Nat} {r : (List Int)} (hS : Sb S w) (h0 : Ob 61 (index_Index.fs a0) S w v0 cs0 fp0) (h1 : Sl api_Ask.k S w v1 a1) (h : index_Index_one a0 a1 = some r) :
    Calls Tryz.prog 50 (List.toArray [v0, v1]) w fun e w1 => ∃ S1 u0, e = .returned (u0) ∧ Cx No S w S1 w1 ∧ Sl (kSl (kI .i64)) S1 w1 u0 r := by
  refine enter Tryz.func50 rfl (by kernel_rfl) rfl ?_
  have C := Cx.refl (F := No) hS
  unfold index_Index_one at h
  have hl0 : ∀ b ∈ fp0, b < w.heap.size := fun b hb => (h0.lt b hb).1
  obtain rfl := api_Ask.o.1 h1
  refine cw_seq fun K1 k2 => ?_
  refine cw_region ?_
  refine sc (dc_boxS C.sb h0.cells1 fun b3 S4 w5 c6 h7 => ?_)
  replace h0 := h0.cx c6
  replace C := C.trans c6
  refine sc (dc_boxS C.sb rfl fun b9 S10 w11 c12 h13 => ?_)
  replace h7 := h7.cx c12
  replace h0 := h0.cx c12
  replace C := C.trans c12
  refine sv (asv (.slice none 0 0) rfl) (W.e (k2 _ _ ?_))
  refine cw_seq fun K15 k16 => ?_
  refine cw_drawU (.one 0 true (.one 1 true (.one 2 true (.one 3 true (.one 4 true (.one 5 true (.one 6 true (.one 7 true .done)))))))) [(0, [9]), (3, [9]), (5, [9]), (6, [9])] [] (fun c => bif Nat.beq c 9 then (fun _ => True) else No) fol (by kernel_rfl) fun w17 u18 => ?_
  replace h7 := h7.nw u18
  replace h0 := h0.nw u18
  replace h13 := h13.nw u18
  replace C := C.new u18
  have m19 := Sm.refl (fun _ => True) w17
  refine mtr rfl rfl ⟨m19, trivial⟩ (fun w' hq => rw_bk ag24 (h7.sm (hq.1.mono fun _ _ => trivial)) rfl rfl) (mtv rfl rfl (rv_nilcheck rfl h0.ptr) (mtv rfl rfl (rv_fieldAddr (b := pb v0) (o := 0) st61 rfl h0.ptr) ?_))
  obtain ⟨c20, h21⟩ := h0.at (i := 3) rfl
  refine mtr rfl rfl ⟨m19, trivial⟩ (fun w' hq => rw_ofieldU (i := 3) (c := c20) h0 (hq.1.mono fun _ _ => trivial) ag59 h21 rfl) (mtv rfl rfl (rv_fieldAddr st53 rfl rfl) (mtr rfl rfl ⟨m19, trivial⟩ (fun w' hq => rw_bk ag9 (h13.sm (hq.1.mono fun _ _ => trivial)) rfl rfl) ?_))
  obtain ⟨_, h22, h23⟩ := Ob.rep h0 (i := 3) rfl h21
  obtain ⟨v24, h25, h26⟩ := rep_look (P := Tryz.prog) (tm := 59) (te := 49) (y0 := ([] : List Int)) h22 Tryz.underlying59 zv49 (sl_nil _ _ _) a1.Name
  refine mtr rfl rfl ⟨m19, trivial⟩ (fun w' hq => (h26 (hq.1.mono fun _ _ => trivial) rfl rfl).1) (mtv rfl rfl (asv v24 rfl) (MT.e (k16 _ _ ?_)))
  refine cw_seq fun K27 k28 => ?_
  refine cw_seq fun K29 k30 => ?_
  refine cw_region (sv (rv_fieldAddr st53 rfl rfl) (sr (rw_bk ag5 h13.2 rfl rfl) (W.e (k30 _ _ (cw_block ?_)))))
  refine cw_seq fun K31 k32 => ?_
  refine cw_region (sv (rv_eql rfl rfl) (sv (asv (.bool (a1.Op == (1 : Int))) rfl) (W.e (k32 _ _ ?_))))
  rcases bif_some h with ⟨b33, h⟩ | ⟨b33, h⟩
  · refine cw_t rfl b33 ?_
    refine cw_seq fun K34 k35 => ?_
    refine cw_drawU (.one 0 true (.one 1 true (.one 2 true (.one 3 true (.one 4 true (.one 5 true (.one 6 true (.one 7 true (.one 8 true (.one 9 true (.one 10 true .done))))))))))) [(0, [9]), (3, [9]), (5, [9]), (7, [9]), (9, [9])] [] (fun c => bif Nat.beq c 9 then (fun _ => True) else No) fol (by kernel_rfl) fun w36 u37 => ?_
    replace h7 := h7.nw u37
    replace h0 := h0.nw u37
    replace h13 := h13.nw u37
    replace C := C.new u37
    have m38 := Sm.refl (fun _ => True) w36
    refine mtr rfl rfl ⟨m38, trivial⟩ (fun w' hq => rw_bk ag24 (h7.sm (hq.1.mono fun _ _ => trivial)) rfl rfl) (mtv rfl rfl (rv_nilcheck rfl h0.ptr) (mtv rfl rfl (rv_fieldAddr (b := pb v0) (o := 0) st61 rfl h0.ptr) ?_))
    obtain ⟨c39, h40⟩ := h0.at (i := 2) rfl
    refine mtr rfl rfl ⟨m38, trivial⟩ (fun w' hq => rw_ofieldU (i := 2) (c := c39) h0 (hq.1.mono fun _ _ => trivial) ag58 h40 rfl) (mtv rfl rfl (rv_fieldAddr st53 rfl rfl) (mtr rfl rfl ⟨m38, trivial⟩ (fun w' hq => rw_bk ag9 (h13.sm (hq.1.mono fun _ _ => trivial)) rfl rfl) (mtv rfl rfl (rv_fieldAddr st53 rfl rfl) (mtr rfl rfl ⟨m38, trivial⟩ (fun w' hq => rw_bk ag9 (h13.sm (hq.1.mono fun _ _ => trivial)) rfl rfl) (mtv rfl rfl (rv_build (r := [.string a1.Name, .string a1.Val]) st46 zr46 rfl) ?_)))))
    obtain ⟨_, h41, h42⟩ := Ob.rep h0 (i := 2) rfl h40
    obtain ⟨v43, h44, h45⟩ := rep_look (P := Tryz.prog) (tm := 58) (te := 49) (y0 := ([] : List Int)) h41 Tryz.underlying58 zv49 (sl_nil _ _ _) (api_Label.mk a1.Name a1.Val)
    refine mtr rfl rfl ⟨m38, trivial⟩ (fun w' hq => (h45 (hq.1.mono fun _ _ => trivial) rfl rfl).1) (mtv rfl rfl (asv v43 rfl) (MT.e (k35 _ _ (cw_ret ?_))))
    obtain rfl := Option.some.inj h
    exact ⟨_, rfl, _, _, rfl, C, h44⟩
  · refine cw_f rfl b33 ?_
    refine cw_seq fun K46 k47 => ?_
    refine cw_region (sv (rv_eql rfl rfl) (sv (asv (.bool (a1.Op == (2 : Int))) rfl) (W.e (k47 _ _ ?_))))
    rcases bif_some h with ⟨b48, h⟩ | ⟨b48, h⟩
    · refine cw_t rfl b48 ?_
      refine cw_seq fun K49 k50 => ?_
      refine cw_drawU (.one 0 true (.one 2 true (.one 3 true (.one 4 true (.one 5 true (.one 6 true (.one 7 true (.one 8 true (.one 9 true (.one 10 true (.one 11 true (.one 1 false (.one 12 false (.one 13 true (.one 14 true (.one 15 true (.one 16 true (.one 17 true .done)))))))))))))))))) [(0, [9]), (2, [9]), (5, [9]), (7, [9]), (9, [9]), (11, [9])] [(1, [9]), (12, [9])] (fun c => bif Nat.beq c 9 then (fun _ => True) else No) fol (by kernel_rfl) fun w51 u52 => ?_
      replace h7 := h7.nw u52
      replace h0 := h0.nw u52
      replace h13 := h13.nw u52
      replace C := C.new u52
      have h7d := h7
      have h0d := h0
      have h13d := h13
      have m53 := Sm.refl (fun _ => True) w51
      refine mtr rfl rfl ⟨m53, trivial⟩ (fun w' hq => rw_bk ag24 (h7.sm (hq.1.mono fun _ _ => trivial)) rfl rfl) (mtr rfl rfl ⟨m53, trivial⟩ (fun w' hq => rw_bk ag24 (h7.sm (hq.1.mono fun _ _ => trivial)) rfl rfl) (mtv rfl rfl (rv_nilcheck rfl h0.ptr) (mtv rfl rfl (rv_fieldAddr (b := pb v0) (o := 0) st61 rfl h0.ptr) ?_)))
      obtain ⟨c54, h55⟩ := h0.at (i := 2) rfl
      refine mtr rfl rfl ⟨m53, trivial⟩ (fun w' hq => rw_ofieldU (i := 2) (c := c54) h0 (hq.1.mono fun _ _ => trivial) ag58 h55 rfl) (mtv rfl rfl (rv_fieldAddr st53 rfl rfl) (mtr rfl rfl ⟨m53, trivial⟩ (fun w' hq => rw_bk ag9 (h13.sm (hq.1.mono fun _ _ => trivial)) rfl rfl) (mtv rfl rfl (rv_fieldAddr st53 rfl rfl) (mtr rfl rfl ⟨m53, trivial⟩ (fun w' hq => rw_bk ag9 (h13.sm (hq.1.mono fun _ _ => trivial)) rfl rfl) (mtv rfl rfl (rv_build (r := [.string a1.Name, .string a1.Val]) st46 zr46 rfl) ?_)))))
      obtain ⟨_, h56, h57⟩ := Ob.rep h0 (i := 2) rfl h55
      obtain ⟨v58, h59, h60⟩ := rep_look (P := Tryz.prog) (tm := 58) (te := 49) (y0 := ([] : List Int)) h56 Tryz.underlying58 zv49 (sl_nil _ _ _) (api_Label.mk a1.Name a1.Val)
      refine mtr rfl rfl ⟨m53, trivial⟩ (fun w' hq => (h60 (hq.1.mono fun _ _ => trivial) rfl rfl).1) ?_
      obtain ⟨y61, h62, h⟩ := bnd_some h
      refine mtc rfl rfl (dc_call (vs := [v0]) can34 rfl ?_)
      refine (index_Index_all_w C.sb h0 h62).mono ?_
      rintro _ w63 ⟨S64, v66, rfl, c65, h67⟩
      refine ⟨_, rfl, ?_⟩
      replace h67 := h67.base C.up.size
      replace h59 := h59.cx c65
      replace C := C.trans c65
      have z68 := (c65.up).size
      have m69 := m53.nx c65.up (by omega)
      refine ⟨⟨m69, trivial⟩, ?_⟩
      replace h59 := h59.or (T := Blk v66)
      replace C := C.sealO h67
      replace h67 := h67.sealed
      obtain ⟨y70, h71, h⟩ := bnd_some h
      refine mtc rfl rfl (dc_call (vs := [v66, v58]) can77 rfl ?_)
      refine (post_Minus_w C.sb h67 h59 h71).mono ?_
      rintro _ w72 ⟨S73, v75, rfl, c74, h76⟩
      refine ⟨_, rfl, ?_⟩
      replace C := C.trans c74
      have z77 := (c74.up).size
      have m78 := m69.nx c74.up (by omega)
      refine ⟨⟨m78, trivial⟩, ?_⟩
      refine mtv rfl rfl (mvv (.tuple (List.toArray [v75, .int .i64 y70.2])) rfl) (mtv rfl rfl (rv_extract rfl rfl) (mtv rfl rfl (rv_extract rfl rfl) (mtv rfl rfl (asv v75 rfl) (mtv rfl rfl (asv (.int .i64 y70.2) rfl) (MT.e (k50 _ _ ?_))))))
      refine cw_seq fun K79 k80 => ?_
      refine cw_region (sv (mvv v75 rfl) (sv (asv v75 rfl) (W.e (k80 _ _ (cw_ret ?_)))))
      obtain rfl := Option.some.inj h
      exact ⟨_, rfl, _, _, rfl, C, h76⟩
    · refine cw_f rfl b48 ?_
      refine cw_seq fun K81 k82 => ?_
      refine cw_region (sv (rv_eql rfl rfl) (sv (asv (.bool (a1.Op == (4 : Int))) rfl) (W.e (k82 _ _ ?_))))
      rcases bif_some h with ⟨b83, h⟩ | ⟨b83, h⟩
      · refine cw_t rfl b83 ?_
        refine cw_seq fun K84 k85 => ?_
        refine cw_region (sv (mvv v24 rfl) (sv (asv v24 rfl) (W.e (k85 _ _ (cw_ret ?_)))))
        obtain rfl := Option.some.inj h
        exact ⟨_, rfl, _, _, rfl, C, h25⟩
      · refine cw_f rfl b83 (cw_skip (k28 _ _ ?_))
        refine cw_seq fun K86 k87 => ?_
        refine cw_region (sv (mvv v24 rfl) ?_)
        obtain ⟨y88, h89, h⟩ := bnd_some h
        refine sc (dc_call (vs := [v24]) can52 rfl ?_)
        refine (slices_Clone_int_int_w C.sb h25 h89).mono ?_
        rintro _ w90 ⟨S91, v93, rfl, c92, h94⟩
        refine ⟨_, rfl, ?_⟩
        have p95 := ap_fresh (fun b hb => (h94.lt b hb).1) (fun b hb => (h0.lt b hb).1)
        replace h94 := h94.base C.up.size
        replace h7 := h7.cx c92
        replace h0 := h0.cx c92
        replace h13 := h13.cx c92
        replace C := C.trans c92
        refine sv (rv_mkfn (vs := [.pointer (some ⟨b9, 0, none⟩), .pointer (some ⟨b3, 0, none⟩)]) rfl) ?_
        obtain ⟨y96, h97, h⟩ := bnd_some h
        refine sc (dc_call (vs := [v93, .func (.func 79) #[] (List.toArray [.pointer (some ⟨b9, 0, none⟩), .pointer (some ⟨b3, 0, none⟩)])]) can78 rfl ?_)
        have h97f : ∀ (x : Int) (w' : World) (v : Value), Up (Blk v93) w90 w' → Sl (kI .i64) S91 w' v x → ∀ b, index_Index_one_1 x a1 a0 = some b → Calls Tryz.prog 79 (List.toArray ([v] ++ [.pointer (some ⟨b9, 0, none⟩), .pointer (some ⟨b3, 0, none⟩)])) w' (fun e w1 => e = .returned (.bool b) ∧ Up No w' w1) := fun x w' v hu hx b hb => by obtain rfl := sl_sc.1 hx; exact (index_Index_one_1_w (C.sb.up hu) (h13.wr hu h94.not) (h0.wr hu h94.not (ap_symm p95)) (h7.wr hu h94.not) hb).mono fun e w1 hp => (by obtain ⟨S1, rfl, c⟩ := hp; exact ⟨rfl, c.up⟩ : e = .returned (.bool b) ∧ Up No w' w1)
        refine (slices_DeleteFunc_int_int_w C.sb h94 can79 h97f h97).mono ?_
        rintro _ w98 ⟨v101, rfl, u99, h100, h102⟩
        refine ⟨_, rfl, ?_⟩
        replace C := C.ow h94 u99
        refine sv (asv v101 rfl) (W.e (k87 _ _ (cw_ret ?_)))
        obtain rfl := Option.some.inj h
        replace C := C.sealO h100
        replace h100 := h100.sealed
        exact ⟨_, rfl, _, _, rfl, C, h100⟩

noncomputable def post_And (a0 : List Int) (a1 : List Int) : Option ((List Int) × Int) :=
  ((post_merge a0 a1 false true false).bind fun y5 => some (y5.1, y5.2))
set_option maxRecDepth 100000 in
set_option maxHeartbeats 4000000 in
theorem post_And_w {S : Nat → Prop} {w : World} {a0 : List Int} {a1 : List Int} {v0 v1 : Value} {r : (List Int) × Int} (hS : Sb S w) (h0 : Sl (kSl (kI .i64)) S w v0 a0) (h1 : Sl (kSl (kI .i64)) S w v1 a1) (h : post_And a0 a1 = some r) :
    Calls Tryz.prog 81 (List.toArray [v0, v1]) w fun e w1 => ∃ S1 u0, e = .returned (.tuple (List.toArray [u0, .int .i64 r.2])) ∧ Cx No S w S1 w1 ∧ Sl (kSl (kI .i64)) S1 w1 u0 r.1 := by
  refine enter Tryz.func81 rfl (by kernel_rfl) rfl ?_
  have C := Cx.refl (F := No) hS
  unfold post_And at h
  refine cw_seq fun K1 k2 => ?_
  refine cw_region (sv (asv (.slice none 0 0) rfl) (sv (asv (.int .i64 0) rfl) (W.e (k2 _ _ ?_))))
  refine cw_seq fun K3 k4 => ?_
  refine cw_region (sv (mvv v0 rfl) (sv (mvv v1 rfl) ?_))
  obtain ⟨y5, h6, h⟩ := bnd_some h
  refine sc (dc_call (vs := [v0, v1, .bool false, .bool true, .bool false]) can95 rfl ?_)
  refine (post_merge_w C.sb h0 h1 h6).mono ?_
  rintro _ w7 ⟨S8, v10, rfl, c9, h11⟩
  refine ⟨_, rfl, ?_⟩
  replace C := C.trans c9
  refine sv (rv_extract rfl rfl) (sv (rv_extract rfl rfl) (sv (asv v10 rfl) (sv (asv (.int .i64 y5.2) rfl) (W.e (k4 _ _ (cw_ret ?_))))))
  obtain rfl := Option.some.inj h
  exact ⟨_, rfl, _, _, rfl, C, h11⟩

noncomputable def post_All.b2 (a0 : List (List Int)) (x29 : List Int) (x30 : Int) : Option (((List Int) × Int) ⊕ (((List Int)) ⊕ ((List Int) × Int))) :=
  (bif (decide (x30 < (a0.length : Int))) then ((at_ a0 x30).bind fun y42 => ((post_And x29 y42).bind fun y49 => (bif (y49.2 != (0 : Int)) then some (.inr (.inr (([] : List Int), y49.2))) else (pur (IntKind.i64.wrap (x30 + (1 : Int))) fun y64 => some (.inl (y49.1, y64)))))) else some (.inr (.inl x29)))
noncomputable def post_All (a0 : List (List Int)) : Option ((List Int) × Int) :=
  (bif ((a0.length : Int) == (0 : Int)) then some (([] : List Int), (1 : Int)) else ((at_ a0 (0 : Int)).bind fun y12 => ((iter (fun s : (List Int) × Int => post_All.b2 a0 s.1 s.2) (y12, (0 : Int))).bind (Sum.elim (fun o17n => some (o17n, (0 : Int))) (fun q => some q)))))
set_option maxRecDepth 100000 in
set_option maxHeartbeats 4000000 in
theorem post_All_w {S : Nat → Prop} {w : World} {a0 : List (List Int)} {v0 : Value} {r : (List Int) × Int} (hS : Sb S w) (h0 : Sl (kSl (kSl (kI .i64))) S w v0 a0) (h : post_All a0 = some r) :
    Calls Tryz.prog 51 (List.toArray [v0]) w fun e w1 => ∃ S1 u0, e = .returned (.tuple (List.toArray [u0, .int .i64 r.2])) ∧ Cx No S w S1 w1 ∧ Sl (kSl (kI .i64)) S1 w1 u0 r.1 := by
  refine enter Tryz.func51 rfl (by kernel_rfl) rfl ?_
  have C := Cx.refl (F := No) hS
  unfold post_All at h
  refine cw_seq fun K1 k2 => ?_
  refine cw_region (sv (asv (.slice none 0 0) rfl) (sv (asv (.int .i64 0) rfl) (W.e (k2 _ _ ?_))))
  refine cw_seq fun K3 k4 => ?_
  refine cw_seq fun K5 k6 => ?_
  refine cw_region (sv (mvv v0 rfl) (sv (rv_lenS el95 h0 rfl) (sv (rv_eql rfl rfl) (W.e (k6 _ _ ?_)))))
  rcases bif_some h with ⟨b7, h⟩ | ⟨b7, h⟩
  · refine cw_t rfl b7 ?_
    refine cw_seq fun K8 k9 => ?_
    refine cw_region (sv (asv (.slice none 0 0) rfl) (sv (asv (.int .i64 1) rfl) (W.e (k9 _ _ (cw_ret ?_)))))
    obtain rfl := Option.some.inj h
    exact ⟨_, rfl, _, _, rfl, C, (sl_nil _ _ _)⟩
  · refine cw_f rfl b7 (cw_skip (k4 _ _ ?_))
    refine cw_seq fun K10 k11 => ?_
    refine cw_region (sv (mvv v0 rfl) ?_)
    obtain ⟨y12, h13, h⟩ := bnd_some h
    refine sv (rv_index el95 h0 rfl rfl h13) ?_
    obtain ⟨v14, h15, h16⟩ := rw_loadA (P := Tryz.prog) el95 h0 h13
    refine sr (h16 _ (Sm.refl _ _) rfl) (sv (asv v14 rfl) (W.e (k11 _ _ ?_)))
    obtain ⟨o17, h20, h⟩ := bnds_some h
    refine cw_seq' (fun ρ w1 => ∃ o17n, o17 = (.inl o17n) ∧ ∃ S1 v69, Cx No S w S1 w1 ∧ Has ρ [(4, v69)] ∧ Sl (kSl (kI .i64)) S1 w1 v69 o17n) ?_ ?_
    · refine cw_seq fun K21 k22 => ?_
      refine cw_region (sv (mvv v0 rfl) (sv (rv_lenS el95 h0 rfl) (sv (mvv (.int .i64 0) rfl) (W.e (k22 _ _ (cw_block ?_))))))
      refine cw_iter h20 (fun s ρ w1 => ∃ S1 v26, Cx No S w S1 w1 ∧ Has ρ [(4, v26), (15, v0), (16, .int .i64 (a0.length : Int)), (17, .int .i64 s.2)] ∧ Sl (kSl (kI .i64)) S1 w1 v26 s.1 ∧ Sl (kSl (kSl (kI .i64))) S1 w1 v0 a0) ⟨_, _, C, ⟨rfl, rfl, rfl, rfl, trivial⟩, h15, h0⟩ ?_
      rintro ⟨x29, x30⟩ q23 ρ w25 ⟨S24, v26, C, h28, h27, h0⟩ h32 h31
      refine h28.cw fun ρ => ?_
      clear h28
      replace h32 : post_All.b2 a0 x29 x30 = some q23 := h32
      unfold post_All.b2 at h32
      refine cw_seq fun K33 k34 => ?_
      refine cw_region (sv (rv_lss rfl rfl) (W.e (k34 _ _ ?_)))
      refine cw_seq fun K35 k36 => ?_
      rcases bif_some h32 with ⟨b37, h32⟩ | ⟨b37, h32⟩
      · refine cw_t rfl b37 (cw_skip (k36 _ _ ?_))
        refine cw_seq fun K38 k39 => ?_
        refine cw_block ?_
        refine cw_seq fun K40 k41 => ?_
        refine cw_region ?_
        obtain ⟨y42, h43, h32⟩ := bnd_some h32
        refine sv (rv_index el95 h0 rfl rfl h43) ?_
        obtain ⟨v44, h45, h46⟩ := rw_loadA (P := Tryz.prog) el95 h0 h43
        refine sr (h46 _ (Sm.refl _ _) rfl) (sv (asv v44 rfl) (W.e (k41 _ _ ?_)))
        refine cw_seq fun K47 k48 => ?_
        refine cw_region (sv (mvv v26 rfl) (sv (mvv v44 rfl) ?_))
        obtain ⟨y49, h50, h32⟩ := bnd_some h32
        refine sc (dc_call (vs := [v26, v44]) can81 rfl ?_)
        refine (post_And_w C.sb h27 h45 h50).mono ?_
        rintro _ w51 ⟨S52, v54, rfl, c53, h55⟩
        refine ⟨_, rfl, ?_⟩
        replace h0 := h0.cx c53
        replace C := C.trans c53
        refine sv (mvv (.tuple (List.toArray [v54, .int .i64 y49.2])) rfl) (sv (rv_extract rfl rfl) (sv (rv_extract rfl rfl) (sv (asv v54 rfl) (sv (asv (.int .i64 y49.2) rfl) (W.e (k48 _ _ ?_))))))
        refine cw_seq fun K56 k57 => ?_
        refine cw_seq fun K58 k59 => ?_
        refine cw_region (sv (mvv (.int .i64 y49.2) rfl) (sv (rv_neq rfl rfl) (W.e (k59 _ _ ?_))))
        rcases bif_some h32 with ⟨b60, h32⟩ | ⟨b60, h32⟩
        · refine cw_t rfl b60 ?_
          refine cw_seq fun K61 k62 => ?_
          refine cw_region (sv (mvv (.int .i64 y49.2) rfl) (sv (asv (.slice none 0 0) rfl) (sv (asv (.int .i64 y49.2) rfl) (W.e (k62 _ _ (cw_ret ?_))))))
          obtain rfl := Option.some.inj h32
          have h63 := congrArg some h31
          obtain rfl := Option.some.inj h63
          replace h := h.2 _ rfl
          obtain rfl := Option.some.inj h
          exact ⟨_, rfl, _, _, rfl, C, (sl_nil _ _ _)⟩
        · refine cw_f rfl b60 (cw_skip (k57 _ _ (cw_region (sv (mvv v54 rfl) (sv (asv v54 rfl) (W.e (k39 _ _ (cw_region ?_))))))))
          obtain ⟨y64, h65, h32⟩ := pur_some h32
          refine sv (rv_add rfl rfl h65) (sv (mvv (.int .i64 y64) rfl) (W.e ?_))
          obtain rfl := Option.some.inj h32
          exact ⟨_, rfl, ⟨_, _, C, ⟨rfl, rfl, rfl, rfl, trivial⟩, h55, h0⟩⟩
      · refine cw_f rfl b37 (cw_exit ?_)
        obtain rfl := Option.some.inj h32
        have h66 := congrArg some h31
        obtain rfl := Option.some.inj h66
        exact ⟨_, rfl, ⟨_, _, C, ⟨rfl, trivial⟩, h27⟩⟩
    · rintro ρ w68 ⟨o17n, rfl, ⟨S67, v69, C, h71, h70⟩⟩
      replace h := h.1 _ rfl
      refine h71.cw fun ρ => ?_
      clear h71
      refine cw_seq fun K72 k73 => ?_
      refine cw_region (sv (mvv v69 rfl) (sv (asv v69 rfl) (sv (asv (.int .i64 0) rfl) (W.e (k73 _ _ (cw_ret ?_))))))
      obtain rfl := Option.some.inj h
      exact ⟨_, rfl, _, _, rfl, C, h70⟩

noncomputable def index_Index_Find.b2 (a1 : List api_Ask) (y22 : index_Index) (x51 : List (List Int)) (x52 : Int) : Option (((List (List Int)) × Int) ⊕ ((List (List Int)))) :=
  (bif (decide (x52 < (a1.length : Int))) then ((at_ a1 x52).bind fun y64 => (pur y64 fun y76 => ((index_Index_one y22 y76).bind fun y85 => ((app_ 24 x51 ([y85] : List (List Int))).bind fun y99 => (pur (IntKind.i64.wrap (x52 + (1 : Int))) fun y108 => some (.inl (y99, y108))))))) else some (.inr x51))
noncomputable def index_Index_Find (a0 : Option index_Index) (a1 : List api_Ask) : Option ((List Int) × Int) :=
  (bif a0.isNone then some (([] : List Int), (2 : Int)) else ((match_Right a1).bind fun y12 => (bif (!y12) then some (([] : List Int), (1 : Int)) else ((a0).bind fun y22 => ((index_Index_all y22).bind fun y25 => ((iter (fun s : (List (List Int)) × Int => index_Index_Find.b2 a1 y22 s.1 s.2) (([y25] : List (List Int)), (0 : Int))).bind fun o39 => ((post_All o39).bind fun y118 => ((slices_Clone_int_int y118.1).bind fun y127 => some (y127, y118.2)))))))))
set_option maxRecDepth 100000 in
set_option maxHeartbeats 4000000 in
theorem index_Index_Find_w {S : Nat → Prop} {w : World} {a0 : Option index_Index} {a1 : List api_Ask} {v0 v1 : Value} {cs0 : List Value} {fp0 : List Nat} {r : (List Int) × Int} (hS : Sb S w) (h0 : Obo 61 index_Index.fs S w v0 a0 cs0 fp0) (h1 : Sl (kSl api_Ask.k) S w v1 a1) (h : index_Index_Find a0 a1 = some r) :
    Calls Tryz.prog 15 (List.toArray [v0, v1]) w fun e w1 => ∃ S1 u0, e = .returned (.tuple (List.toArray [u0, .int .i64 r.2])) ∧ Cx No S w S1 w1 ∧ Ow (kI .i64) 3 S1 w.heap.size w1 u0 r.1 := by
  refine enter Tryz.func15 rfl (by kernel_rfl) rfl ?_
  have C := Cx.refl (F := No) hS
  unfold index_Index_Find at h
  have hl0 : ∀ b ∈ fp0, b < w.heap.size := fun b hb => (h0.lt b hb).1
  refine cw_seq fun K1 k2 => ?_
  refine cw_region (sv (asv (.slice none 0 0) rfl) (sv (asv (.int .i64 0) rfl) (W.e (k2 _ _ ?_))))
  refine cw_seq fun K3 k4 => ?_
  refine cw_block ?_
  refine cw_seq fun K5 k6 => ?_
  refine cw_region (sv (mvv v0 rfl) (sv (rv_nileq Tryz.underlying24 rfl rfl h0.ne) (sv (asv (.bool a0.isNone) rfl) (W.e (k6 _ _ ?_)))))
  rcases bif_some h with ⟨b7, h⟩ | ⟨b7, h⟩
  · refine cw_t rfl b7 ?_
    refine cw_seq fun K8 k9 => ?_
    refine cw_region (sv (asv (.slice none 0 0) rfl) (sv (asv (.int .i64 2) rfl) (W.e (k9 _ _ (cw_ret ?_)))))
    obtain rfl := Option.some.inj h
    exact ⟨_, rfl, _, _, rfl, C, Ow.nil _ _ _ _ _⟩
  · refine cw_f rfl b7 ?_
    refine cw_seq fun K10 k11 => ?_
    refine cw_region (sv (mvv v1 rfl) ?_)
    obtain ⟨y12, h13, h⟩ := bnd_some h
    refine sc (dc_call (vs := [v1]) can49 rfl ?_)
    refine (match_Right_w C.sb h1 h13).mono ?_
    rintro _ w14 ⟨S15, rfl, c16⟩
    refine ⟨_, rfl, ?_⟩
    replace h0 := h0.cx c16
    replace h1 := h1.cx c16
    replace C := C.trans c16
    refine sv (rv_not rfl) (sv (asv (.bool (!y12)) rfl) (W.e (k11 _ _ ?_)))
    rcases bif_some h with ⟨b17, h⟩ | ⟨b17, h⟩
    · refine cw_t rfl b17 ?_
      refine cw_seq fun K18 k19 => ?_
      refine cw_region (sv (asv (.slice none 0 0) rfl) (sv (asv (.int .i64 1) rfl) (W.e (k19 _ _ (cw_ret ?_)))))
      obtain rfl := Option.some.inj h
      exact ⟨_, rfl, _, _, rfl, C, Ow.nil _ _ _ _ _⟩
    · refine cw_f rfl b17 (cw_skip (k4 _ _ ?_))
      refine cw_seq fun K20 k21 => ?_
      refine cw_region (sv (mvv v0 rfl) ?_)
      obtain ⟨y22, h23, h⟩ := bnd_some h
      have h24 := h0
      rw [h23] at h24
      replace h24 : Ob 61 (index_Index.fs y22) _ _ _ _ _ := h24
      obtain ⟨y25, h26, h⟩ := bnd_some h
      refine sc (dc_call (vs := [v0]) can34 rfl ?_)
      refine (index_Index_all_w C.sb h24 h26).mono ?_
      rintro _ w27 ⟨S28, v30, rfl, c29, h31⟩
      refine ⟨_, rfl, ?_⟩
      have p32 := ap_fresh (fun b hb => (h31.lt b hb).1) (fun b hb => (h24.lt b hb).1)
      replace h31 := h31.base C.up.size
      replace h24 := h24.cx c29
      replace h0 := h0.cx c29
      replace h1 := h1.cx c29
      replace C := C.trans c29
      replace h24 := h24.or (ap_symm p32)
      replace h0 := h0.or (ap_symm p32)
      replace h1 := h1.or (T := Blk v30)
      replace C := C.sealO h31
      replace h31 := h31.sealed
      refine sc (dc_lit (vs := [v30]) (xs := ([y25] : List (List Int))) (base := w.heap.size) el95 rfl rfl (.cons h31 (.nil)) (Nat.le_of_ble_eq_true rfl) C.up.size C.sb fun v33 w34 h35 h36 u37 => ?_)
      have p38 := ap_fresh h36 (fun b hb => (h24.lt b hb).1)
      replace h24 := h24.nw u37
      replace h0 := h0.nw u37
      replace h1 := h1.nw u37
      replace C := C.new u37
      refine sv (asv v33 rfl) (W.e (k21 _ _ ?_))
      obtain ⟨o39, h42, h⟩ := bnd_some h
      refine cw_seq' (fun ρ w1 => ∃ S1 v113, Cx No S w S1 w1 ∧ Has ρ [(6, v113)] ∧ Ow (kSl (kI .i64)) 49 S1 w.heap.size w1 v113 o39) ?_ ?_
      · refine cw_seq fun K43 k44 => ?_
        refine cw_region (sv (mvv v1 rfl) (sv (rv_lenS el32 h1 rfl) (sv (mvv (.int .i64 0) rfl) (W.e (k44 _ _ (cw_block ?_))))))
        refine cw_iter h42 (fun s ρ w1 => ∃ S1 v48, Cx No S w S1 w1 ∧ Has ρ [(0, v0), (6, v48), (21, v1), (22, .int .i64 (a1.length : Int)), (23, .int .i64 s.2)] ∧ Ow (kSl (kI .i64)) 49 S1 w.heap.size w1 v48 s.1 ∧ Sl (kSl api_Ask.k) S1 w1 v1 a1 ∧ Obo 61 index_Index.fs S1 w1 v0 a0 cs0 fp0 ∧ Ob 61 (index_Index.fs y22) S1 w1 v0 cs0 fp0) ⟨_, _, C, ⟨rfl, rfl, rfl, rfl, rfl, trivial⟩, h35, h1, h0, h24⟩ ?_
        rintro ⟨x51, x52⟩ q45 ρ w47 ⟨S46, v48, C, h50, h49, h1, h0, h24⟩ h54 h53
        refine h50.cw fun ρ => ?_
        clear h50
        replace h54 : index_Index_Find.b2 a1 y22 x51 x52 = some q45 := h54
        unfold index_Index_Find.b2 at h54
        refine cw_seq fun K55 k56 => ?_
        refine cw_region (sv (rv_lss rfl rfl) (W.e (k56 _ _ ?_)))
        refine cw_seq fun K57 k58 => ?_
        rcases bif_some h54 with ⟨b59, h54⟩ | ⟨b59, h54⟩
        · refine cw_t rfl b59 (cw_skip (k58 _ _ ?_))
          refine cw_seq fun K60 k61 => ?_
          refine cw_block ?_
          refine cw_seq fun K62 k63 => ?_
          refine cw_region ?_
          obtain ⟨y64, h65, h54⟩ := bnd_some h54
          refine sv (rv_index el32 h1 rfl rfl h65) ?_
          obtain ⟨v66, h67, h68⟩ := rw_loadA (P := Tryz.prog) el32 h1 h65
          obtain rfl := api_Ask.o.1 h67
          refine sr (h68 _ (Sm.refl _ _) rfl) ?_
          refine sc (dc_allocO (x0 := (api_Ask.mk (0 : Int) ByteArray.empty ByteArray.empty)) (base := w.heap.size) el32 zr53 (fun _ => api_Ask.r.2 rfl) C.up.size C.sb fun b69 w70 h71 h72 u73 => ?_)
          have p74 := ap_fresh h72 (fun b hb => (h24.lt b hb).1)
          have p75 := ap_fresh h72 (fun b hb => (h49.lt b hb).2)
          replace h24 := h24.nw u73
          replace h0 := h0.nw u73
          replace h1 := h1.nw u73
          replace h49 := h49.nw u73
          replace C := C.new u73
          obtain ⟨y76, h77, h54⟩ := pur_some h54
          have h81 := h71
          refine sc (dc_storeO el32 h81 (show at_ [(api_Ask.mk (0 : Int) ByteArray.empty ByteArray.empty)] (0 : Int) = some (api_Ask.mk (0 : Int) ByteArray.empty ByteArray.empty) from rfl) rfl rfl (((api_Ask.o (x := y64)).2 rfl)) fun w78 h79 u80 => ?_)
          replace h79 : Ow api_Ask.k 53 S46 w.heap.size w78 (.slice (some ⟨b69, 0, none⟩) 1 1) [y64] := h79
          rw [h77] at h79
          replace h24 := h24.wr u80 h81.not (ap_symm p74)
          replace h0 := h0.wr u80 h81.not (ap_symm p74)
          replace h1 := h1.wr u80 h81.not
          replace h49 := h49.wr u80 h81.not (ap_symm p75)
          replace C := C.ow h81 u80
          refine W.e (k63 _ _ (cw_region (sv (mvv v48 rfl) (sv (mvv v0 rfl) ?_))))
          obtain ⟨v82, h83, h84⟩ := rw_loadO (P := Tryz.prog) el32 h79 (show at_ [y76] (0 : Int) = some y76 from rfl)
          obtain rfl := api_Ask.o.1 h83
          refine sr (h84 _ (Sm.refl _ _) rfl) ?_
          obtain ⟨y85, h86, h54⟩ := bnd_some h54
          refine sc (dc_call (vs := [v0, .agg (List.toArray [.int .u8 y76.Op, .string y76.Name, .string y76.Val])]) can50 rfl ?_)
          refine (index_Index_one_w C.sb h24 ((api_Ask.o (x := y76)).2 rfl) h86).mono ?_
          rintro _ w87 ⟨S88, v90, rfl, c89, h91⟩
          refine ⟨_, rfl, ?_⟩
          replace h24 := h24.cx c89
          replace h0 := h0.cx c89
          replace h1 := h1.cx c89
          replace h49 := h49.cx c89
          replace C := C.trans c89
          refine sc (dc_lit (vs := [v90]) (xs := ([y85] : List (List Int))) (base := w.heap.size) el95 rfl rfl (.cons h91 (.nil)) (Nat.le_of_ble_eq_true rfl) C.up.size C.sb fun v92 w93 h94 h95 u96 => ?_)
          have p97 := ap_fresh h95 (fun b hb => (h24.lt b hb).1)
          have p98 := ap_fresh h95 (fun b hb => (h49.lt b hb).2)
          replace h24 := h24.nw u96
          replace h0 := h0.nw u96
          replace h1 := h1.nw u96
          replace h49 := h49.nw u96
          replace C := C.new u96
          obtain ⟨y99, h100, h54⟩ := bnd_some h54
          have h106 := h49
          refine sc (dc_append el95 (by decide) h106 h94.src rfl rfl h100 C.up.size C.sb fun v101 w102 h103 u104 h105 => ?_)
          have p107 := ap_grow (ap_symm (fun b hq hb => absurd (h49.lt b hb).1 (Nat.not_le_of_lt (hl0 b hq)))) h105 (fun b hb => (h24.lt b hb).1)
          replace h24 := h24.wr u104 h106.not (fun b hq hb => absurd (h106.lt b hb).1 (Nat.not_le_of_lt (hl0 b hq)))
          replace h0 := h0.wr u104 h106.not (fun b hq hb => absurd (h106.lt b hb).1 (Nat.not_le_of_lt (hl0 b hq)))
          replace h1 := h1.wr u104 h106.not
          replace C := C.ow h106 u104
          refine sv (asv v101 rfl) (W.e (k61 _ _ (cw_region ?_)))
          obtain ⟨y108, h109, h54⟩ := pur_some h54
          refine sv (rv_add rfl rfl h109) (sv (mvv (.int .i64 y108) rfl) (W.e ?_))
          obtain rfl := Option.some.inj h54
          exact ⟨_, rfl, ⟨_, _, C, ⟨rfl, rfl, rfl, rfl, rfl, trivial⟩, h103, h1, h0, h24⟩⟩
        · refine cw_f rfl b59 (cw_exit ?_)
          obtain rfl := Option.some.inj h54
          have h110 := congrArg some h53
          obtain rfl := Option.some.inj h110
          exact ⟨_, _, C, ⟨rfl, trivial⟩, h49⟩
      · rintro ρ w112 ⟨S111, v113, C, h115, h114⟩
        refine h115.cw fun ρ => ?_
        clear h115
        refine cw_seq fun K116 k117 => ?_
        refine cw_region (sv (mvv v113 rfl) ?_)
        replace C := C.sealO h114
        replace h114 := h114.sealed
        obtain ⟨y118, h119, h⟩ := bnd_some h
        refine sc (dc_call (vs := [v113]) can51 rfl ?_)
        refine (post_All_w C.sb h114 h119).mono ?_
        rintro _ w120 ⟨S121, v123, rfl, c122, h124⟩
        refine ⟨_, rfl, ?_⟩
        replace C := C.trans c122
        refine sv (mvv (.tuple (List.toArray [v123, .int .i64 y118.2])) rfl) (sv (rv_extract rfl rfl) (sv (rv_extract rfl rfl) (sv (asv v123 rfl) (sv (asv (.int .i64 y118.2) rfl) (W.e (k117 _ _ ?_))))))
        refine cw_seq fun K125 k126 => ?_
        refine cw_region (sv (mvv v123 rfl) ?_)
        obtain ⟨y127, h128, h⟩ := bnd_some h
        refine sc (dc_call (vs := [v123]) can52 rfl ?_)
        refine (slices_Clone_int_int_w C.sb h124 h128).mono ?_
        rintro _ w129 ⟨S130, v132, rfl, c131, h133⟩
        refine ⟨_, rfl, ?_⟩
        replace h133 := h133.base C.up.size
        replace C := C.trans c131
        refine sv (mvv (.int .i64 y118.2) rfl) (sv (asv v132 rfl) (sv (asv (.int .i64 y118.2) rfl) (W.e (k126 _ _ (cw_ret ?_)))))
        obtain rfl := Option.some.inj h
        exact ⟨_, rfl, _, _, rfl, C, h133⟩

noncomputable def index_Index_Labels (a0 : Option index_Index) (a1 : Int) : Option ((List api_Label) × Bool) :=
  (bif a0.isNone then some (([] : List api_Label), false) else ((a0).bind fun y12 => ((slices_Clone_api_Label_api_Label ((mget a1 y12.series).getD ([] : List api_Label))).bind fun y24 => some (y24, (mget a1 y12.series).isSome))))
set_option maxRecDepth 100000 in
set_option maxHeartbeats 4000000 in
theorem index_Index_Labels_w {S : Nat → Prop} {w : World} {a0 : Option index_Index} {a1 : Int} {v0 : Value} {cs0 : List Value} {fp0 : List Nat} {r : (List api_Label) × Bool} (hS : Sb S w) (h0 : Obo 61 index_Index.fs S w v0 a0 cs0 fp0) (h : index_Index_Labels a0 a1 = some r) :
    Calls Tryz.prog 25 (List.toArray [v0, .int .i64 a1]) w fun e w1 => ∃ S1 u0, e = .returned (.tuple (List.toArray [u0, .bool r.2])) ∧ Cx No S w S1 w1 ∧ Ow api_Label.k 46 S1 w.heap.size w1 u0 r.1 := by
  refine enter Tryz.func25 rfl (by kernel_rfl) rfl ?_
  have C := Cx.refl (F := No) hS
  unfold index_Index_Labels at h
  have hl0 : ∀ b ∈ fp0, b < w.heap.size := fun b hb => (h0.lt b hb).1
  refine cw_seq fun K1 k2 => ?_
  refine cw_region (sv (asv (.slice none 0 0) rfl) (sv (asv (.bool false) rfl) (W.e (k2 _ _ ?_))))
  refine cw_seq fun K3 k4 => ?_
  refine cw_seq fun K5 k6 => ?_
  refine cw_region (sv (mvv v0 rfl) (sv (rv_nileq Tryz.underlying24 rfl rfl h0.ne) (W.e (k6 _ _ ?_))))
  rcases bif_some h with ⟨b7, h⟩ | ⟨b7, h⟩
  · refine cw_t rfl b7 ?_
    refine cw_seq fun K8 k9 => ?_
    refine cw_region (sv (asv (.slice none 0 0) rfl) (sv (asv (.bool false) rfl) (W.e (k9 _ _ (cw_ret ?_)))))
    obtain rfl := Option.some.inj h
    exact ⟨_, rfl, _, _, rfl, C, Ow.nil _ _ _ _ _⟩
  · refine cw_f rfl b7 (cw_skip (k4 _ _ ?_))
    refine cw_seq fun K10 k11 => ?_
    refine cw_region (sv (mvv v0 rfl) ?_)
    obtain ⟨y12, h13, h⟩ := bnd_some h
    have h14 := h0
    rw [h13] at h14
    replace h14 : Ob 61 (index_Index.fs y12) _ _ _ _ _ := h14
    refine sv (rv_nilcheck rfl h14.ptr) (sv (rv_fieldAddr (b := pb v0) (o := 0) st61 rfl h14.ptr) ?_)
    obtain ⟨c15, h16⟩ := h14.at (i := 0) rfl
    refine sr (rw_ofield (i := 0) (c := c15) h14 ag56 h16 rfl) (sv (mvv (.int .i64 a1) rfl) ?_)
    obtain ⟨_, h17, h18⟩ := Ob.rep h14 (i := 0) rfl h16
    obtain ⟨v19, h20, h21⟩ := rep_look (P := Tryz.prog) (tm := 56) (te := 31) (y0 := ([] : List api_Label)) h17 Tryz.underlying56 zv31 (sl_nil _ _ _) a1
    refine sr ((h21 (Sm.refl _ _) rfl rfl).2) (sv (mvv (.tuple (List.toArray [v19, .bool (mget a1 y12.series).isSome])) rfl) (sv (rv_extract rfl rfl) (sv (rv_extract rfl rfl) (sv (asv v19 rfl) (sv (asv (.bool (mget a1 y12.series).isSome) rfl) (W.e (k11 _ _ ?_)))))))
    refine cw_seq fun K22 k23 => ?_
    refine cw_region (sv (mvv v19 rfl) ?_)
    obtain ⟨y24, h25, h⟩ := bnd_some h
    refine sc (dc_call (vs := [v19]) can58 rfl ?_)
    refine (slices_Clone_api_Label_api_Label_w C.sb h20 h25).mono ?_
    rintro _ w26 ⟨S27, v29, rfl, c28, h30⟩
    refine ⟨_, rfl, ?_⟩
    replace h30 := h30.base C.up.size
    replace C := C.trans c28
    refine sv (mvv (.bool (mget a1 y12.series).isSome) rfl) (sv (asv v29 rfl) (sv (asv (.bool (mget a1 y12.series).isSome) rfl) (W.e (k23 _ _ (cw_ret ?_)))))
    obtain rfl := Option.some.inj h
    exact ⟨_, rfl, _, _, rfl, C, h30⟩

noncomputable def index_less (a0 : List Int) (a1 : Int) : Option (List Int) :=
  ((post_Minus a0 ([a1] : List Int)).bind fun y10 => some y10.1)
set_option maxRecDepth 100000 in
set_option maxHeartbeats 4000000 in
theorem index_less_w {S : Nat → Prop} {w : World} {a0 : List Int} {a1 : Int} {v0 : Value} {r : (List Int)} (hS : Sb S w) (h0 : Sl (kSl (kI .i64)) S w v0 a0) (h : index_less a0 a1 = some r) :
    Calls Tryz.prog 53 (List.toArray [v0, .int .i64 a1]) w fun e w1 => ∃ S1 u0, e = .returned (u0) ∧ Cx No S w S1 w1 ∧ Sl (kSl (kI .i64)) S1 w1 u0 r := by
  refine enter Tryz.func53 rfl (by kernel_rfl) rfl ?_
  have C := Cx.refl (F := No) hS
  unfold index_less at h
  refine cw_seq fun K1 k2 => ?_
  refine cw_region (sv (asv (.slice none 0 0) rfl) (W.e (k2 _ _ ?_)))
  refine cw_seq fun K3 k4 => ?_
  refine cw_region (sv (mvv v0 rfl) (sv (mvv (.int .i64 a1) rfl) ?_))
  refine sc (dc_lit (vs := [.int .i64 a1]) (xs := ([a1] : List Int)) (base := w.heap.size) el49 rfl rfl (.cons (sl_sc.2 rfl) (.nil)) (Nat.le_of_ble_eq_true rfl) C.up.size C.sb fun v5 w6 h7 h8 u9 => ?_)
  replace h0 := h0.nw u9
  replace C := C.new u9
  replace h0 := h0.or (T := Blk v5)
  replace C := C.sealO h7
  replace h7 := h7.sealed
  obtain ⟨y10, h11, h⟩ := bnd_some h
  refine sc (dc_call (vs := [v0, v5]) can77 rfl ?_)
  refine (post_Minus_w C.sb h0 h7 h11).mono ?_
  rintro _ w12 ⟨S13, v15, rfl, c14, h16⟩
  refine ⟨_, rfl, ?_⟩
  replace C := C.trans c14
  refine sv (mvv (.tuple (List.toArray [v15, .int .i64 y10.2])) rfl) (sv (rv_extract rfl rfl) (sv (rv_extract rfl rfl) (sv (asv v15 rfl) (sv (asv (.int .i64 y10.2) rfl) (W.e (k4 _ _ ?_))))))
  refine cw_seq fun K17 k18 => ?_
  refine cw_region (sv (mvv v15 rfl) (sv (asv v15 rfl) (W.e (k18 _ _ (cw_ret ?_)))))
  obtain rfl := Option.some.inj h
  exact ⟨_, rfl, _, _, rfl, C, h16⟩

noncomputable def index_Index_Drop.b2 (a1 : Int) (y5 : (List api_Label) × Bool) (x68 : Int) (x69 : index_Index) : Option ((Int × index_Index) ⊕ (index_Index)) :=
  (bif (decide (x68 < (y5.1.length : Int))) then (((at_ y5.1 x68).bind fun y83 => (pur y83 fun y94 => (((index_less ((mget y94 x69.posts).getD ([] : List Int)) a1).bind fun y130 => (pur ({ x69 with posts := (mput y94 y130 x69.posts) } : index_Index) fun y141 => (bif ((((mget y94 y141.posts).getD ([] : List Int)).length : Int) == (0 : Int)) then (pur ({ y141 with posts := (mrem y94 y141.posts) } : index_Index) fun y171 => some y171) else some y141))).bind fun o100 => ((index_less ((mget y94.Name o100.names).getD ([] : List Int)) a1).bind fun y214 => (pur ({ o100 with names := (mput y94.Name y214 o100.names) } : index_Index) fun y225 => (bif ((((mget y94.Name y225.names).getD ([] : List Int)).length : Int) == (0 : Int)) then (pur ({ y225 with names := (mrem y94.Name y225.names) } : index_Index) fun y255 => some y255) else some y225)))))).bind fun o77 => (pur (IntKind.i64.wrap (x68 + (1 : Int))) fun y271 => some (.inl (y271, o77)))) else some (.inr x69))
noncomputable def index_Index_Drop (a0 : Option index_Index) (a1 : Int) : Option (Int × (Option index_Index)) :=
  ((index_Index_Labels a0 a1).bind fun y5 => (bif (!y5.2) then some ((2 : Int), a0) else ((index_key y5.1).bind fun y22 => ((a0).bind fun y31 => (pur ({ y31 with series := (mrem a1 y31.series) } : index_Index) fun y36 => (pur ({ y36 with ids := (mrem y22.2.1 y36.ids) } : index_Index) fun y47 => ((iter (fun s : Int × index_Index => index_Index_Drop.b2 a1 y5 s.1 s.2) ((0 : Int), y47)).bind fun o54 => some ((0 : Int), some o54))))))))
set_option maxRecDepth 100000 in
set_option maxHeartbeats 4000000 in
theorem index_Index_Drop_w {S : Nat → Prop} {w : World} {a0 : Option index_Index} {a1 : Int} {v0 : Value} {cs0 : List Value} {fp0 : List Nat} {r : Int × (Option index_Index)} (hS : Sb S w) (h0 : Obo 61 index_Index.fs S w v0 a0 cs0 fp0) (h : index_Index_Drop a0 a1 = some r) :
    Calls Tryz.prog 16 (List.toArray [v0, .int .i64 a1]) w fun e w1 => ∃ S1 us_0 up_0, e = .returned (.int .i64 r.1) ∧ Cx (fun b => b ∈ fp0) S w S1 w1 ∧ Obo 61 index_Index.fs S1 w1 v0 r.2 us_0 up_0 ∧ (∀ b, b ∈ up_0 → b ∈ fp0 ∨ w.heap.size ≤ b) := by
  refine enter Tryz.func16 rfl (by kernel_rfl) rfl ?_
  have C := Cx.refl (F := (fun b => b ∈ fp0)) hS
  unfold index_Index_Drop at h
  have hs0 : ∀ b, b ∈ fp0 → b ∈ fp0 ∨ w.heap.size ≤ b := fun b hb => .inl hb
  have hl0 : ∀ b ∈ fp0, b < w.heap.size := fun b hb => (h0.lt b hb).1
  refine cw_seq fun K1 k2 => ?_
  refine cw_region (sv (asv (.int .i64 0) rfl) (W.e (k2 _ _ ?_)))
  refine cw_seq fun K3 k4 => ?_
  refine cw_region (sv (mvv v0 rfl) (sv (mvv (.int .i64 a1) rfl) ?_))
  obtain ⟨y5, h6, h⟩ := bnd_some h
  refine sc (dc_call (vs := [v0, .int .i64 a1]) can25 rfl ?_)
  refine (index_Index_Labels_w C.sb h0 h6).mono ?_
  rintro _ w7 ⟨S8, v10, rfl, c9, h11⟩
  refine ⟨_, rfl, ?_⟩
  have p12 := ap_fresh (fun b hb => (h11.lt b hb).1) (fun b hb => (h0.lt b hb).1)
  replace h11 := h11.base C.up.size
  replace h0 := h0.cx c9
  replace C := C.trans c9
  refine sv (mvv (.tuple (List.toArray [v10, .bool y5.2])) rfl) (sv (rv_extract rfl rfl) (sv (rv_extract rfl rfl) (sv (asv v10 rfl) (sv (asv (.bool y5.2) rfl) (W.e (k4 _ _ ?_))))))
  refine cw_seq fun K13 k14 => ?_
  refine cw_seq fun K15 k16 => ?_
  refine cw_region (sv (mvv (.bool y5.2) rfl) (sv (rv_not rfl) (W.e (k16 _ _ ?_))))
  rcases bif_some h with ⟨b17, h⟩ | ⟨b17, h⟩
  · refine cw_t rfl b17 ?_
    refine cw_seq fun K18 k19 => ?_
    refine cw_region (sv (asv (.int .i64 2) rfl) (W.e (k19 _ _ (cw_ret ?_))))
    obtain rfl := Option.some.inj h
    exact ⟨_, rfl, _, _, _, rfl, C, h0, hs0⟩
  · refine cw_f rfl b17 (cw_skip (k14 _ _ ?_))
    refine cw_seq fun K20 k21 => ?_
    refine cw_region (sv (mvv v10 rfl) ?_)
    replace h0 := h0.or (ap_symm p12)
    replace C := C.sealO h11
    replace h11 := h11.sealed
    obtain ⟨y22, h23, h⟩ := bnd_some h
    refine sc (dc_call (vs := [v10]) can43 rfl ?_)
    refine (index_key_w C.sb h11 h23).mono ?_
    rintro _ w24 ⟨S25, v27, rfl, c26, h28⟩
    refine ⟨_, rfl, ?_⟩
    replace h0 := h0.cx c26
    replace h11 := h11.cx c26
    replace C := C.trans c26
    refine sv (mvv (.tuple (List.toArray [v27, .string y22.2.1, .int .i64 y22.2.2])) rfl) (sv (rv_extract rfl rfl) (sv (rv_extract rfl rfl) (sv (rv_extract rfl rfl) (sv (asv v27 rfl) (sv (asv (.string y22.2.1) rfl) (sv (asv (.int .i64 y22.2.2) rfl) (W.e (k21 _ _ ?_))))))))
    refine cw_seq fun K29 k30 => ?_
    refine cw_region (sv (mvv v0 rfl) ?_)
    obtain ⟨y31, h32, h⟩ := bnd_some h
    have h33 := h0
    rw [h32] at h33
    replace h33 : Ob 61 (index_Index.fs y31) _ _ _ _ _ := h33
    refine sv (rv_nilcheck rfl h33.ptr) (sv (rv_fieldAddr (b := pb v0) (o := 0) st61 rfl h33.ptr) ?_)
    obtain ⟨c34, h35⟩ := h33.at (i := 0) rfl
    refine sr (rw_ofield (i := 0) (c := c34) h33 ag56 h35 rfl) (sv (mvv (.int .i64 a1) rfl) ?_)
    obtain ⟨y36, h37, h⟩ := pur_some h
    have h42 : ∀ b, b ∈ fp0 → ¬ S25 b := fun b hb => (h33.lt b hb).2
    refine sc (dc_omdel (a := a1) h33 (i := 0) rfl h35 Tryz.underlying56 rfl rfl fun w38 h39 u40 => ?_)
    replace h39 : Ob 61 (index_Index.fs ({ y31 with series := (mrem a1 y31.series) } : index_Index)) S25 w38 v0 cs0 fp0 := h39
    rw [h37] at h39
    have c41 := Cx.ofUp C.sb u40
    replace h11 := h11.cf c41 h42
    replace C := C.ofc c41 hs0
    refine W.e (k30 _ _ ?_)
    refine cw_seq fun K43 k44 => ?_
    refine cw_region (sv (mvv v0 rfl) (sv (rv_nilcheck rfl h39.ptr) (sv (rv_fieldAddr (b := pb v0) (o := 0) st61 rfl h39.ptr) ?_)))
    obtain ⟨c45, h46⟩ := h39.at (i := 1) rfl
    refine sr (rw_ofield (i := 1) (c := c45) h39 ag57 h46 rfl) (sv (mvv (.string y22.2.1) rfl) ?_)
    obtain ⟨y47, h48, h⟩ := pur_some h
    have h53 : ∀ b, b ∈ fp0 → ¬ S25 b := fun b hb => (h39.lt b hb).2
    refine sc (dc_omdel (a := y22.2.1) h39 (i := 1) rfl h46 Tryz.underlying57 rfl rfl fun w49 h50 u51 => ?_)
    replace h50 : Ob 61 (index_Index.fs ({ y36 with ids := (mrem y22.2.1 y36.ids) } : index_Index)) S25 w49 v0 cs0 fp0 := h50
    rw [h48] at h50
    have c52 := Cx.ofUp C.sb u51
    replace h11 := h11.cf c52 h53
    replace C := C.ofc c52 hs0
    refine W.e (k44 _ _ ?_)
    obtain ⟨o54, h57, h⟩ := bnd_some h
    refine cw_seq' (fun ρ w1 => ∃ S1 fp277 cs279, Cx (fun b => b ∈ fp0) S w S1 w1 ∧ Has ρ [] ∧ Ob 61 (index_Index.fs o54) S1 w1 v0 cs279 fp277 ∧ (∀ b, b ∈ fp277 → b ∈ fp0 ∨ w.heap.size ≤ b)) ?_ ?_
    · refine cw_seq fun K58 k59 => ?_
      refine cw_region (sv (mvv v10 rfl) (sv (rv_lenS el31 h11 rfl) (sv (mvv (.int .i64 0) rfl) (W.e (k59 _ _ (cw_block ?_))))))
      refine cw_iter h57 (fun s ρ w1 => ∃ S1 fp64 cs66, Cx (fun b => b ∈ fp0) S w S1 w1 ∧ Has ρ [(0, v0), (1, .int .i64 a1), (36, v10), (37, .int .i64 (y5.1.length : Int)), (38, .int .i64 s.1)] ∧ Sl (kSl api_Label.k) S1 w1 v10 y5.1 ∧ Ob 61 (index_Index.fs s.2) S1 w1 v0 cs66 fp64 ∧ (∀ b, b ∈ fp64 → b ∈ fp0 ∨ w.heap.size ≤ b)) ⟨_, _, _, C, ⟨rfl, rfl, rfl, rfl, rfl, trivial⟩, h11, h50, hs0⟩ ?_
      rintro ⟨x68, x69⟩ q60 ρ w62 ⟨S61, fp64, cs66, C, h67, h11, h63, h65⟩ h71 h70
      refine h67.cw fun ρ => ?_
      clear h67
      replace h71 : index_Index_Drop.b2 a1 y5 x68 x69 = some q60 := h71
      unfold index_Index_Drop.b2 at h71
      refine cw_seq fun K72 k73 => ?_
      refine cw_region (sv (rv_lss rfl rfl) (W.e (k73 _ _ ?_)))
      refine cw_seq fun K74 k75 => ?_
      rcases bif_some h71 with ⟨b76, h71⟩ | ⟨b76, h71⟩
      · refine cw_t rfl b76 (cw_skip (k75 _ _ ?_))
        obtain ⟨o77, h80, h71⟩ := bnd_some h71
        refine cw_seq' (fun ρ w1 => ∃ S1 fp267 cs269, Cx (fun b => b ∈ fp0) S w S1 w1 ∧ Has ρ [(0, v0), (1, .int .i64 a1), (36, v10), (37, .int .i64 (y5.1.length : Int)), (38, .int .i64 x68)] ∧ Sl (kSl api_Label.k) S1 w1 v10 y5.1 ∧ Ob 61 (index_Index.fs o77) S1 w1 v0 cs269 fp267 ∧ (∀ b, b ∈ fp267 → b ∈ fp0 ∨ w.heap.size ≤ b)) ?_ ?_
        · refine cw_block ?_
          refine cw_seq fun K81 k82 => ?_
          refine cw_region ?_
          obtain ⟨y83, h84, h80⟩ := bnd_some h80
          refine sv (rv_index el31 h11 rfl rfl h84) ?_
          obtain ⟨v85, h86, h87⟩ := rw_loadA (P := Tryz.prog) el31 h11 h84
          obtain rfl := api_Label.o.1 h86
          refine sr (h87 _ (Sm.refl _ _) rfl) ?_
          refine sc (dc_allocO (x0 := (api_Label.mk ByteArray.empty ByteArray.empty)) (base := w.heap.size) el31 zr46 (fun _ => api_Label.r.2 rfl) C.up.size C.sb fun b88 w89 h90 h91 u92 => ?_)
          have p93 := ap_fresh h91 (fun b hb => (h63.lt b hb).1)
          replace h63 := h63.nw u92
          replace h11 := h11.nw u92
          replace C := C.new u92
          obtain ⟨y94, h95, h80⟩ := pur_some h80
          have h99 := h90
          refine sc (dc_storeO el31 h99 (show at_ [(api_Label.mk ByteArray.empty ByteArray.empty)] (0 : Int) = some (api_Label.mk ByteArray.empty ByteArray.empty) from rfl) rfl rfl (((api_Label.o (x := y83)).2 rfl)) fun w96 h97 u98 => ?_)
          replace h97 : Ow api_Label.k 46 S61 w.heap.size w96 (.slice (some ⟨b88, 0, none⟩) 1 1) [y83] := h97
          rw [h95] at h97
          replace h63 := h63.wr u98 h99.not (ap_symm p93)
          replace h11 := h11.wr u98 h99.not
          replace C := C.ow h99 u98
          refine W.e (k82 _ _ ?_)
          obtain ⟨o100, h103, h80⟩ := bnd_some h80
          refine cw_seq' (fun ρ w1 => ∃ S1 fp183 cs185, Cx (fun b => b ∈ fp0) S w S1 w1 ∧ Has ρ [(0, v0), (1, .int .i64 a1), (11, .pointer (some ⟨b88, 0, none⟩)), (36, v10), (37, .int .i64 (y5.1.length : Int)), (38, .int .i64 x68)] ∧ Ow api_Label.k 46 S1 w.heap.size w1 (.slice (some ⟨b88, 0, none⟩) 1 1) ([y94]) ∧ Sl (kSl api_Label.k) S1 w1 v10 y5.1 ∧ Ob 61 (index_Index.fs o100) S1 w1 v0 cs185 fp183 ∧ (∀ b, b ∈ fp183 → b ∈ fp0 ∨ w.heap.size ≤ b) ∧ (∀ b, Blk (.slice (some ⟨b88, 0, none⟩) 1 1) b → ¬ b ∈ fp183)) ?_ ?_
          · refine cw_seq fun K104 k105 => ?_
            obtain ⟨c108, h109⟩ := h63.at (i := 0) rfl
            obtain ⟨c110, h111⟩ := h63.at (i := 1) rfl
            obtain ⟨c112, h113⟩ := h63.at (i := 2) rfl
            obtain ⟨c114, h115⟩ := h63.at (i := 3) rfl
            refine cw_drawU (.one 0 true (.one 1 true (.one 2 true (.one 3 true (.one 4 true (.one 5 true (.one 6 true (.one 7 true (.one 8 true (.one 9 true (.one 10 true (.one 11 true (.one 12 false (.one 13 false .done)))))))))))))) [(3, [10]), (4, [1000]), (8, [10]), (9, [1000]), (10, [102])] [(12, [10, 1000]), (13, [])] (fun c => bif Nat.beq c 10 then (One (pb v0)) else bif Nat.beq c 102 then (One (mb c112)) else bif Nat.beq c 1000 then (Or S61 (Blk (.slice (some ⟨b88, 0, none⟩) 1 1))) else No) fol (by kernel_rfl) fun w106 u107 => ?_
            replace h63 := h63.nw u107
            replace h97 := h97.nw u107
            replace h11 := h11.nw u107
            replace C := C.new u107
            have h63d := h63
            have h97d := h97
            have h11d := h11
            have m116 := Sm.refl (One (pb v0)) w106
            have m117 := Sm.refl (One (mb c112)) w106
            have m118 := Sm.refl (Or S61 (Blk (.slice (some ⟨b88, 0, none⟩) 1 1))) w106
            refine mtv rfl rfl (mvv v0 rfl) (mtv rfl rfl (rv_nilcheck rfl h63.ptr) (mtv rfl rfl (rv_fieldAddr (b := pb v0) (o := 0) st61 rfl h63.ptr) (mtr rfl rfl ⟨m116, trivial⟩ (fun w' hq => rw_ofieldU (i := 2) (c := c112) h63 hq.1 ag58 h113 rfl) ?_)))
            obtain ⟨v119, h120, h121⟩ := rw_loadO (P := Tryz.prog) el31 h97 (show at_ [y94] (0 : Int) = some y94 from rfl)
            obtain rfl := api_Label.o.1 h120
            refine mtr rfl rfl ⟨m118, trivial⟩ (fun w' hq => h121 w' hq.1 rfl) (mtv rfl rfl (mvv v0 rfl) (mtv rfl rfl (rv_nilcheck rfl h63.ptr) (mtv rfl rfl (rv_fieldAddr (b := pb v0) (o := 0) st61 rfl h63.ptr) (mtr rfl rfl ⟨m116, trivial⟩ (fun w' hq => rw_ofieldU (i := 2) (c := c112) h63 hq.1 ag58 h113 rfl) ?_))))
            obtain ⟨v122, h123, h124⟩ := rw_loadO (P := Tryz.prog) el31 h97 (show at_ [y94] (0 : Int) = some y94 from rfl)
            obtain rfl := api_Label.o.1 h123
            refine mtr rfl rfl ⟨m118, trivial⟩ (fun w' hq => h124 w' hq.1 rfl) ?_
            obtain ⟨_, h125, h126⟩ := Ob.rep h63 (i := 2) rfl h113
            obtain ⟨v127, h128, h129⟩ := rep_look (P := Tryz.prog) (tm := 58) (te := 49) (y0 := ([] : List Int)) h125 Tryz.underlying58 zv49 (sl_nil _ _ _) y94
            refine mtr rfl rfl ⟨m117, trivial⟩ (fun w' hq => (h129 hq.1 rfl rfl).1) (mtv rfl rfl (mvv (.int .i64 a1) rfl) ?_)
            obtain ⟨y130, h131, h103⟩ := bnd_some h103
            refine mtc rfl rfl (dc_call (vs := [v127, .int .i64 a1]) can53 rfl ?_)
            refine (index_less_w C.sb h128 h131).mono ?_
            rintro _ w132 ⟨S133, v135, rfl, c134, h136⟩
            refine ⟨_, rfl, ?_⟩
            replace h63 := h63.cx c134
            replace h11 := h11.cx c134
            replace h97 := h97.cx c134
            replace C := C.trans c134
            have z137 := (c134.up).size
            have m138 := m116.nx c134.up (by omega)
            have m139 := m117.nx c134.up (by omega)
            have m140 := m118.nx c134.up (by omega)
            refine ⟨⟨m138, m140, trivial⟩, ?_⟩
            obtain ⟨y141, h142, h103⟩ := pur_some h103
            have h147 : ∀ b, b ∈ fp64 → ¬ S133 b := fun b hb => (h63.lt b hb).2
            refine mtc rfl rfl (dc_omset (a := y94) h63 (i := 2) rfl h113 Tryz.underlying58 rfl rfl rfl h136 fun w143 h144 u145 => ?_)
            replace h144 : Ob 61 (index_Index.fs ({ x69 with posts := (mput y94 y130 x69.posts) } : index_Index)) S133 w143 v0 cs66 fp64 := h144
            rw [h142] at h144
            have c146 := Cx.ofUp C.sb u145
            replace h11 := h11.cf c146 h147
            replace h97 := h97.cf c146 h147 p93
            replace C := C.ofc c146 h65
            have z148 := (u145).size
            have m149 := m140.wrC u145 (by omega) (fun b hb hs => hs.elim ((fun b hb hs => h147 b hb ((fun b h => c134.ge.le b h) b hs)) b hb) ((ap_symm p93) b hb))
            refine ⟨trivial, ?_⟩
            refine MT.e (k105 _ _ ?_)
            refine cw_seq fun K150 k151 => ?_
            refine cw_drawU (.one 0 true (.one 1 true (.one 2 true (.one 3 true (.one 4 true (.one 5 true (.one 6 true (.one 7 true .done)))))))) [(3, [9]), (4, [9]), (5, [9])] [] (fun c => bif Nat.beq c 9 then (fun _ => True) else No) fol (by kernel_rfl) fun w152 u153 => ?_
            replace h144 := h144.nw u153
            replace h11 := h11.nw u153
            replace h97 := h97.nw u153
            replace C := C.new u153
            have m154 := Sm.refl (fun _ => True) w152
            refine mtv rfl rfl (mvv v0 rfl) (mtv rfl rfl (rv_nilcheck rfl h144.ptr) (mtv rfl rfl (rv_fieldAddr (b := pb v0) (o := 0) st61 rfl h144.ptr) (mtr rfl rfl ⟨m154, trivial⟩ (fun w' hq => rw_ofieldU (i := 2) (c := c112) h144 (hq.1.mono fun _ _ => trivial) ag58 h113 rfl) ?_)))
            obtain ⟨v155, h156, h157⟩ := rw_loadO (P := Tryz.prog) el31 h97 (show at_ [y94] (0 : Int) = some y94 from rfl)
            obtain rfl := api_Label.o.1 h156
            refine mtr rfl rfl ⟨m154, trivial⟩ (fun w' hq => h157 w' (hq.1.mono fun _ _ => trivial) rfl) ?_
            obtain ⟨_, h158, h159⟩ := Ob.rep h144 (i := 2) rfl h113
            obtain ⟨v160, h161, h162⟩ := rep_look (P := Tryz.prog) (tm := 58) (te := 49) (y0 := ([] : List Int)) h158 Tryz.underlying58 zv49 (sl_nil _ _ _) y94
            refine mtr rfl rfl ⟨m154, trivial⟩ (fun w' hq => (h162 (hq.1.mono fun _ _ => trivial) rfl rfl).1) (mtv rfl rfl (rv_lenS el49 h161 rfl) (mtv rfl rfl (rv_eql rfl rfl) (MT.e (k151 _ _ ?_))))
            rcases bif_some h103 with ⟨b163, h103⟩ | ⟨b163, h103⟩
            · refine cw_t rfl b163 ?_
              refine cw_drawU (.one 0 true (.one 1 true (.one 2 true (.one 3 true (.one 4 true (.one 5 false .done)))))) [(3, [10]), (4, [1000])] [(5, [])] (fun c => bif Nat.beq c 10 then (One (pb v0)) else bif Nat.beq c 1000 then (Or S133 (Blk (.slice (some ⟨b88, 0, none⟩) 1 1))) else No) fol (by kernel_rfl) fun w164 u165 => ?_
              replace h144 := h144.nw u165
              replace h11 := h11.nw u165
              replace h97 := h97.nw u165
              replace C := C.new u165
              have h144d := h144
              have h11d := h11
              have h97d := h97
              have m166 := Sm.refl (One (pb v0)) w164
              have m167 := Sm.refl (Or S133 (Blk (.slice (some ⟨b88, 0, none⟩) 1 1))) w164
              refine mtv rfl rfl (mvv v0 rfl) (mtv rfl rfl (rv_nilcheck rfl h144.ptr) (mtv rfl rfl (rv_fieldAddr (b := pb v0) (o := 0) st61 rfl h144.ptr) (mtr rfl rfl ⟨m166, trivial⟩ (fun w' hq => rw_ofieldU (i := 2) (c := c112) h144 hq.1 ag58 h113 rfl) ?_)))
              obtain ⟨v168, h169, h170⟩ := rw_loadO (P := Tryz.prog) el31 h97 (show at_ [y94] (0 : Int) = some y94 from rfl)
              obtain rfl := api_Label.o.1 h169
              refine mtr rfl rfl ⟨m167, trivial⟩ (fun w' hq => h170 w' hq.1 rfl) ?_
              obtain ⟨y171, h172, h103⟩ := pur_some h103
              have h177 : ∀ b, b ∈ fp64 → ¬ S133 b := fun b hb => (h144.lt b hb).2
              refine mtc rfl rfl (dc_omdel (a := y94) h144 (i := 2) rfl h113 Tryz.underlying58 rfl rfl fun w173 h174 u175 => ?_)
              replace h174 : Ob 61 (index_Index.fs ({ y141 with posts := (mrem y94 y141.posts) } : index_Index)) S133 w173 v0 cs66 fp64 := h174
              rw [h172] at h174
              have c176 := Cx.ofUp C.sb u175
              replace h11 := h11.cf c176 h177
              replace h97 := h97.cf c176 h177 p93
              replace C := C.ofc c176 h65
              have z178 := (u175).size
              have m179 := m167.wrC u175 (by omega) (fun b hb hs => hs.elim (h177 b hb) ((ap_symm p93) b hb))
              refine ⟨trivial, ?_⟩
              refine MT.e ?_
              obtain rfl := Option.some.inj h103
              exact ⟨_, _, _, C, ⟨rfl, rfl, rfl, rfl, rfl, rfl, trivial⟩, h97, h11, h174, h65, p93⟩
            · refine cw_f rfl b163 (cw_skip ?_)
              obtain rfl := Option.some.inj h103
              exact ⟨_, _, _, C, ⟨rfl, rfl, rfl, rfl, rfl, rfl, trivial⟩, h97, h11, h144, h65, p93⟩
          · rintro ρ w181 ⟨S180, fp183, cs185, C, h187, h97, h11, h182, h184, p186⟩
            refine h187.cw fun ρ => ?_
            clear h187
            refine cw_seq fun K188 k189 => ?_
            obtain ⟨c192, h193⟩ := h182.at (i := 0) rfl
            obtain ⟨c194, h195⟩ := h182.at (i := 1) rfl
            obtain ⟨c196, h197⟩ := h182.at (i := 2) rfl
            obtain ⟨c198, h199⟩ := h182.at (i := 3) rfl
            refine cw_drawU (.one 0 true (.one 1 true (.one 2 true (.one 3 true (.one 4 true (.one 5 true (.one 6 true (.one 7 true (.one 8 true (.one 9 true (.one 10 true (.one 11 true (.one 12 true (.one 13 true (.one 14 false (.one 15 false .done)))))))))))))))) [(3, [10]), (5, [1000]), (9, [10]), (11, [1000]), (12, [103])] [(14, [10, 1000]), (15, [])] (fun c => bif Nat.beq c 10 then (One (pb v0)) else bif Nat.beq c 103 then (One (mb c198)) else bif Nat.beq c 1000 then (Or S180 (Blk (.slice (some ⟨b88, 0, none⟩) 1 1))) else No) fol (by kernel_rfl) fun w190 u191 => ?_
            replace h182 := h182.nw u191
            replace h97 := h97.nw u191
            replace h11 := h11.nw u191
            replace C := C.new u191
            have h182d := h182
            have h97d := h97
            have h11d := h11
            have m200 := Sm.refl (One (pb v0)) w190
            have m201 := Sm.refl (One (mb c198)) w190
            have m202 := Sm.refl (Or S180 (Blk (.slice (some ⟨b88, 0, none⟩) 1 1))) w190
            refine mtv rfl rfl (mvv v0 rfl) (mtv rfl rfl (rv_nilcheck rfl h182.ptr) (mtv rfl rfl (rv_fieldAddr (b := pb v0) (o := 0) st61 rfl h182.ptr) (mtr rfl rfl ⟨m200, trivial⟩ (fun w' hq => rw_ofieldU (i := 3) (c := c198) h182 hq.1 ag59 h199 rfl) (mtv rfl rfl (rv_fieldAddr st46 rfl rfl) ?_))))
            obtain ⟨cs203, h204, h205⟩ := Ow.cellsO h97 (show at_ [y94] (0 : Int) = some y94 from rfl)
            obtain rfl := api_Label.r.1 h204
            refine mtr rfl rfl ⟨m202, trivial⟩ (fun w' hq => rw_el1 (off := 0) ag9 (h205 w' hq.1) rfl rfl) (mtv rfl rfl (mvv v0 rfl) (mtv rfl rfl (rv_nilcheck rfl h182.ptr) (mtv rfl rfl (rv_fieldAddr (b := pb v0) (o := 0) st61 rfl h182.ptr) (mtr rfl rfl ⟨m200, trivial⟩ (fun w' hq => rw_ofieldU (i := 3) (c := c198) h182 hq.1 ag59 h199 rfl) (mtv rfl rfl (rv_fieldAddr st46 rfl rfl) ?_)))))
            obtain ⟨cs206, h207, h208⟩ := Ow.cellsO h97 (show at_ [y94] (0 : Int) = some y94 from rfl)
            obtain rfl := api_Label.r.1 h207
            refine mtr rfl rfl ⟨m202, trivial⟩ (fun w' hq => rw_el1 (off := 0) ag9 (h208 w' hq.1) rfl rfl) ?_
            obtain ⟨_, h209, h210⟩ := Ob.rep h182 (i := 3) rfl h199
            obtain ⟨v211, h212, h213⟩ := rep_look (P := Tryz.prog) (tm := 59) (te := 49) (y0 := ([] : List Int)) h209 Tryz.underlying59 zv49 (sl_nil _ _ _) y94.Name
            refine mtr rfl rfl ⟨m201, trivial⟩ (fun w' hq => (h213 hq.1 rfl rfl).1) (mtv rfl rfl (mvv (.int .i64 a1) rfl) ?_)
            obtain ⟨y214, h215, h80⟩ := bnd_some h80
            refine mtc rfl rfl (dc_call (vs := [v211, .int .i64 a1]) can53 rfl ?_)
            refine (index_less_w C.sb h212 h215).mono ?_
            rintro _ w216 ⟨S217, v219, rfl, c218, h220⟩
            refine ⟨_, rfl, ?_⟩
            replace h182 := h182.cx c218
            replace h11 := h11.cx c218
            replace h97 := h97.cx c218
            replace C := C.trans c218
            have z221 := (c218.up).size
            have m222 := m200.nx c218.up (by omega)
            have m223 := m201.nx c218.up (by omega)
            have m224 := m202.nx c218.up (by omega)
            refine ⟨⟨m222, m224, trivial⟩, ?_⟩
            obtain ⟨y225, h226, h80⟩ := pur_some h80
            have h231 : ∀ b, b ∈ fp183 → ¬ S217 b := fun b hb => (h182.lt b hb).2
            refine mtc rfl rfl (dc_omset (a := y94.Name) h182 (i := 3) rfl h199 Tryz.underlying59 rfl rfl rfl h220 fun w227 h228 u229 => ?_)
            replace h228 : Ob 61 (index_Index.fs ({ o100 with names := (mput y94.Name y214 o100.names) } : index_Index)) S217 w227 v0 cs185 fp183 := h228
            rw [h226] at h228
            have c230 := Cx.ofUp C.sb u229
            replace h11 := h11.cf c230 h231
            replace h97 := h97.cf c230 h231 p186
            replace C := C.ofc c230 h184
            have z232 := (u229).size
            have m233 := m224.wrC u229 (by omega) (fun b hb hs => hs.elim ((fun b hb hs => h231 b hb ((fun b h => c218.ge.le b h) b hs)) b hb) ((ap_symm p186) b hb))
            refine ⟨trivial, ?_⟩
            refine MT.e (k189 _ _ ?_)
            refine cw_seq fun K234 k235 => ?_
            refine cw_drawU (.one 0 true (.one 1 true (.one 2 true (.one 3 true (.one 4 true (.one 5 true (.one 6 true (.one 7 true (.one 8 true .done))))))))) [(3, [9]), (5, [9]), (6, [9])] [] (fun c => bif Nat.beq c 9 then (fun _ => True) else No) fol (by kernel_rfl) fun w236 u237 => ?_
            replace h228 := h228.nw u237
            replace h11 := h11.nw u237
            replace h97 := h97.nw u237
            replace C := C.new u237
            have m238 := Sm.refl (fun _ => True) w236
            refine mtv rfl rfl (mvv v0 rfl) (mtv rfl rfl (rv_nilcheck rfl h228.ptr) (mtv rfl rfl (rv_fieldAddr (b := pb v0) (o := 0) st61 rfl h228.ptr) (mtr rfl rfl ⟨m238, trivial⟩ (fun w' hq => rw_ofieldU (i := 3) (c := c198) h228 (hq.1.mono fun _ _ => trivial) ag59 h199 rfl) (mtv rfl rfl (rv_fieldAddr st46 rfl rfl) ?_))))
            obtain ⟨cs239, h240, h241⟩ := Ow.cellsO h97 (show at_ [y94] (0 : Int) = some y94 from rfl)
            obtain rfl := api_Label.r.1 h240
            refine mtr rfl rfl ⟨m238, trivial⟩ (fun w' hq => rw_el1 (off := 0) ag9 (h241 w' (hq.1.mono fun _ _ => trivial)) rfl rfl) ?_
            obtain ⟨_, h242, h243⟩ := Ob.rep h228 (i := 3) rfl h199
            obtain ⟨v244, h245, h246⟩ := rep_look (P := Tryz.prog) (tm := 59) (te := 49) (y0 := ([] : List Int)) h242 Tryz.underlying59 zv49 (sl_nil _ _ _) y94.Name
            refine mtr rfl rfl ⟨m238, trivial⟩ (fun w' hq => (h246 (hq.1.mono fun _ _ => trivial) rfl rfl).1) (mtv rfl rfl (rv_lenS el49 h245 rfl) (mtv rfl rfl (rv_eql rfl rfl) (MT.e (k235 _ _ ?_))))
            rcases bif_some h80 with ⟨b247, h80⟩ | ⟨b247, h80⟩
            · refine cw_t rfl b247 ?_
              refine cw_drawU (.one 0 true (.one 1 true (.one 2 true (.one 3 true (.one 4 true (.one 5 true (.one 6 false .done))))))) [(3, [10]), (5, [1000])] [(6, [])] (fun c => bif Nat.beq c 10 then (One (pb v0)) else bif Nat.beq c 1000 then (Or S217 (Blk (.slice (some ⟨b88, 0, none⟩) 1 1))) else No) fol (by kernel_rfl) fun w248 u249 => ?_
              replace h228 := h228.nw u249
              replace h11 := h11.nw u249
              replace h97 := h97.nw u249
              replace C := C.new u249
              have h228d := h228
              have h11d := h11
              have h97d := h97
              have m250 := Sm.refl (One (pb v0)) w248
              have m251 := Sm.refl (Or S217 (Blk (.slice (some ⟨b88, 0, none⟩) 1 1))) w248
              refine mtv rfl rfl (mvv v0 rfl) (mtv rfl rfl (rv_nilcheck rfl h228.ptr) (mtv rfl rfl (rv_fieldAddr (b := pb v0) (o := 0) st61 rfl h228.ptr) (mtr rfl rfl ⟨m250, trivial⟩ (fun w' hq => rw_ofieldU (i := 3) (c := c198) h228 hq.1 ag59 h199 rfl) (mtv rfl rfl (rv_fieldAddr st46 rfl rfl) ?_))))
              obtain ⟨cs252, h253, h254⟩ := Ow.cellsO h97 (show at_ [y94] (0 : Int) = some y94 from rfl)
              obtain rfl := api_Label.r.1 h253
              refine mtr rfl rfl ⟨m251, trivial⟩ (fun w' hq => rw_el1 (off := 0) ag9 (h254 w' hq.1) rfl rfl) ?_
              obtain ⟨y255, h256, h80⟩ := pur_some h80
              have h261 : ∀ b, b ∈ fp183 → ¬ S217 b := fun b hb => (h228.lt b hb).2
              refine mtc rfl rfl (dc_omdel (a := y94.Name) h228 (i := 3) rfl h199 Tryz.underlying59 rfl rfl fun w257 h258 u259 => ?_)
              replace h258 : Ob 61 (index_Index.fs ({ y225 with names := (mrem y94.Name y225.names) } : index_Index)) S217 w257 v0 cs185 fp183 := h258
              rw [h256] at h258
              have c260 := Cx.ofUp C.sb u259
              replace h11 := h11.cf c260 h261
              replace C := C.ofc c260 h184
              have z262 := (u259).size
              have m263 := m251.wrC u259 (by omega) (fun b hb hs => hs.elim (h261 b hb) ((ap_symm p186) b hb))
              refine ⟨trivial, ?_⟩
              refine MT.e ?_
              obtain rfl := Option.some.inj h80
              exact ⟨_, _, _, C, ⟨rfl, rfl, rfl, rfl, rfl, trivial⟩, h11, h258, h184⟩
            · refine cw_f rfl b247 (cw_skip ?_)
              obtain rfl := Option.some.inj h80
              exact ⟨_, _, _, C, ⟨rfl, rfl, rfl, rfl, rfl, trivial⟩, h11, h228, h184⟩
        · rintro ρ w265 ⟨S264, fp267, cs269, C, h270, h11, h266, h268⟩
          refine h270.cw fun ρ => ?_
          clear h270
          refine cw_region ?_
          obtain ⟨y271, h272, h71⟩ := pur_some h71
          refine sv (rv_add rfl rfl h272) (sv (mvv (.int .i64 y271) rfl) (W.e ?_))
          obtain rfl := Option.some.inj h71
          exact ⟨_, rfl, ⟨_, _, _, C, ⟨rfl, rfl, rfl, rfl, rfl, trivial⟩, h11, h266, h268⟩⟩
      · refine cw_f rfl b76 (cw_exit ?_)
        obtain rfl := Option.some.inj h71
        have h273 := congrArg some h70
        obtain rfl := Option.some.inj h273
        exact ⟨_, _, _, C, trivial, h63, h65⟩
    · rintro ρ w275 ⟨S274, fp277, cs279, C, h280, h276, h278⟩
      refine h280.cw fun ρ => ?_
      clear h280
      refine cw_seq fun K281 k282 => ?_
      refine cw_region (sv (asv (.int .i64 0) rfl) (W.e (k282 _ _ (cw_ret ?_))))
      obtain rfl := Option.some.inj h
      exact ⟨_, rfl, _, _, _, rfl, C, h276, h278⟩

noncomputable def marigraphref04_Ints.b2 (a0 : List Int) (a1 : List Int) (x20 : Int) : Option ((Int) ⊕ ((Unit) ⊕ (Bool))) :=
  (bif (decide (x20 < (a0.length : Int))) then ((at_ a0 x20).bind fun y35 => ((at_ a1 x20).bind fun y37 => (bif (y35 != y37) then some (.inr (.inr false)) else (pur (IntKind.i64.wrap (x20 + (1 : Int))) fun y43 => some (.inl y43))))) else some (.inr (.inl ())))
noncomputable def marigraphref04_Ints (a0 : List Int) (a1 : List Int) : Option Bool :=
  (bif ((a0.length : Int) != (a1.length : Int)) then some false else ((iter (fun s : Int => marigraphref04_Ints.b2 a0 a1 s) (0 : Int)).bind (Sum.elim (fun o10n => some true) (fun q => some q))))
set_option maxRecDepth 100000 in
set_option maxHeartbeats 4000000 in
theorem marigraphref04_Ints_w {S : Nat → Prop} {w : World} {a0 : List Int} {a1 : List Int} {v0 v1 : Value} {r : Bool} (hS : Sb S w) (h0 : Sl (kSl (kI .i64)) S w v0 a0) (h1 : Sl (kSl (kI .i64)) S w v1 a1) (h : marigraphref04_Ints a0 a1 = some r) :
    Calls Tryz.prog 17 (List.toArray [v0, v1]) w fun e w1 => ∃ S1, e = .returned (.bool r) ∧ Cx No S w S1 w1 := by
  refine enter Tryz.func17 rfl (by kernel_rfl) rfl ?_
  have C := Cx.refl (F := No) hS
  unfold marigraphref04_Ints at h
  refine cw_seq fun K1 k2 => ?_
  refine cw_region (sv (asv (.bool false) rfl) (W.e (k2 _ _ ?_)))
  refine cw_seq fun K3 k4 => ?_
  refine cw_seq fun K5 k6 => ?_
  refine cw_region (sv (mvv v0 rfl) (sv (rv_lenS el49 h0 rfl) (sv (mvv v1 rfl) (sv (rv_lenS el49 h1 rfl) (sv (rv_neq rfl rfl) (W.e (k6 _ _ ?_)))))))
  rcases bif_some h with ⟨b7, h⟩ | ⟨b7, h⟩
  · refine cw_t rfl b7 ?_
    refine cw_seq fun K8 k9 => ?_
    refine cw_region (sv (asv (.bool false) rfl) (W.e (k9 _ _ (cw_ret ?_))))
    obtain rfl := Option.some.inj h
    exact ⟨_, rfl, _, rfl, C⟩
  · refine cw_f rfl b7 (cw_skip (k4 _ _ ?_))
    obtain ⟨o10, h13, h⟩ := bnds_some h
    refine cw_seq' (fun ρ w1 => ∃ o10n, o10 = (.inl o10n) ∧ ∃ S1, Cx No S w S1 w1 ∧ Has ρ []) ?_ ?_
    · refine cw_seq fun K14 k15 => ?_
      refine cw_region (sv (asv (.int .i64 0) rfl) (W.e (k15 _ _ (cw_block ?_))))
      refine cw_iter h13 (fun s ρ w1 => ∃ S1, Cx No S w S1 w1 ∧ Has ρ [(0, v0), (1, v1), (5, .int .i64 s)] ∧ Sl (kSl (kI .i64)) S1 w1 v0 a0 ∧ Sl (kSl (kI .i64)) S1 w1 v1 a1) ⟨_, C, ⟨rfl, rfl, rfl, trivial⟩, h0, h1⟩ ?_
      rintro x20 q16 ρ w18 ⟨S17, C, h19, h0, h1⟩ h22 h21
      refine h19.cw fun ρ => ?_
      clear h19
      replace h22 : marigraphref04_Ints.b2 a0 a1 x20 = some q16 := h22
      unfold marigraphref04_Ints.b2 at h22
      refine cw_seq fun K23 k24 => ?_
      refine cw_seq fun K25 k26 => ?_
      refine cw_region (sv (mvv (.int .i64 x20) rfl) (sv (mvv v0 rfl) (sv (rv_lenS el49 h0 rfl) (sv (rv_lss rfl rfl) (W.e (k26 _ _ ?_))))))
      rcases bif_some h22 with ⟨b27, h22⟩ | ⟨b27, h22⟩
      · refine cw_t rfl b27 (cw_skip (k24 _ _ ?_))
        refine cw_seq fun K28 k29 => ?_
        refine cw_block ?_
        refine cw_seq fun K30 k31 => ?_
        refine cw_drawU (.one 0 true (.one 1 true (.one 2 true (.one 3 true (.one 4 true (.one 5 true (.one 6 true (.one 7 true (.one 8 true .done))))))))) [(3, [9]), (7, [9])] [] (fun c => bif Nat.beq c 9 then (fun _ => True) else No) fol (by kernel_rfl) fun w32 u33 => ?_
        replace h0 := h0.nw u33
        replace h1 := h1.nw u33
        replace C := C.new u33
        have m34 := Sm.refl (fun _ => True) w32
        refine mtv rfl rfl (mvv v0 rfl) (mtv rfl rfl (mvv (.int .i64 x20) rfl) ?_)
        obtain ⟨y35, h36, h22⟩ := bnd_some h22
        refine mtv rfl rfl (rv_index el49 h0 rfl rfl h36) (mtr rfl rfl ⟨m34, trivial⟩ (fun w' hq => rw_loadC el49 h0 h36 rfl w' (hq.1.mono fun _ _ => trivial)) (mtv rfl rfl (mvv v1 rfl) (mtv rfl rfl (mvv (.int .i64 x20) rfl) ?_)))
        obtain ⟨y37, h38, h22⟩ := bnd_some h22
        refine mtv rfl rfl (rv_index el49 h1 rfl rfl h38) (mtr rfl rfl ⟨m34, trivial⟩ (fun w' hq => rw_loadC el49 h1 h38 rfl w' (hq.1.mono fun _ _ => trivial)) (mtv rfl rfl (rv_neq rfl rfl) (MT.e (k31 _ _ ?_))))
        rcases bif_some h22 with ⟨b39, h22⟩ | ⟨b39, h22⟩
        · refine cw_t rfl b39 ?_
          refine cw_seq fun K40 k41 => ?_
          refine cw_region (sv (asv (.bool false) rfl) (W.e (k41 _ _ (cw_ret ?_))))
          obtain rfl := Option.some.inj h22
          have h42 := congrArg some h21
          obtain rfl := Option.some.inj h42
          replace h := h.2 _ rfl
          obtain rfl := Option.some.inj h
          exact ⟨_, rfl, _, rfl, C⟩
        · refine cw_f rfl b39 (cw_skip (k29 _ _ (cw_region (sv (mvv (.int .i64 x20) rfl) ?_))))
          obtain ⟨y43, h44, h22⟩ := pur_some h22
          refine sv (rv_add rfl rfl h44) (sv (asv (.int .i64 y43) rfl) (W.e ?_))
          obtain rfl := Option.some.inj h22
          exact ⟨_, rfl, ⟨_, C, ⟨rfl, rfl, rfl, trivial⟩, h0, h1⟩⟩
      · refine cw_f rfl b27 (cw_exit ?_)
        obtain rfl := Option.some.inj h22
        have h45 := congrArg some h21
        obtain rfl := Option.some.inj h45
        exact ⟨_, rfl, ⟨_, C, trivial⟩⟩
    · rintro ρ w47 ⟨o10n, rfl, ⟨S46, C, h48⟩⟩
      replace h := h.1 _ rfl
      refine h48.cw fun ρ => ?_
      clear h48
      refine cw_seq fun K49 k50 => ?_
      refine cw_region (sv (asv (.bool true) rfl) (W.e (k50 _ _ (cw_ret ?_))))
      obtain rfl := Option.some.inj h
      exact ⟨_, rfl, _, rfl, C⟩

noncomputable def marigraphlaw08_shown  : Option Bool :=
  ((index_New).bind fun y5 => (bif y5.isNone then some false else ((index_Index_Add y5 ([(api_Label.mk (ByteArray.mk #[97]) (ByteArray.mk #[49]))] : List api_Label)).bind fun y40 => ((index_Index_Add y40.2.2 ([(api_Label.mk (ByteArray.mk #[97]) (ByteArray.mk #[50]))] : List api_Label)).bind fun y54 => ((index_Index_Add y54.2.2 ([(api_Label.mk (ByteArray.mk #[97]) (ByteArray.mk #[49]))] : List api_Label)).bind fun y67 => ((index_Index_Find y67.2.2 ([(api_Ask.mk (3 : Int) (ByteArray.mk #[97]) (ByteArray.mk #[50]))] : List api_Ask)).bind fun y86 => ((index_Index_Drop y67.2.2 (0 : Int)).bind fun y96 => ((index_Index_Add y96.2 ([(api_Label.mk (ByteArray.mk #[97]) (ByteArray.mk #[49]))] : List api_Label)).bind fun y110 => ((bif (y40.1 == (0 : Int)) then (bif (y54.1 == (1 : Int)) then (bif (y67.1 == (0 : Int)) then (bif (y110.1 == (2 : Int)) then (bif (y40.2.1 == (0 : Int)) then (bif (y54.2.1 == (0 : Int)) then (bif (y67.2.1 == (0 : Int)) then (bif (y86.2 == (0 : Int)) then (bif (y96.1 == (0 : Int)) then (bif (y110.2.1 == (0 : Int)) then ((marigraphref04_Ints y86.1 ([(1 : Int)] : List Int)).bind fun y142 => some y142) else some false) else some false) else some false) else some false) else some false) else some false) else some false) else some false) else some false) else some false).bind fun o122 => some o122)))))))))
set_option maxRecDepth 100000 in
set_option maxHeartbeats 4000000 in
theorem marigraphlaw08_shown_w {S : Nat → Prop} {w : World}  {r : Bool} (hS : Sb S w)  (h : marigraphlaw08_shown = some r) :
    Calls Tryz.prog 5 (List.toArray []) w fun e w1 => ∃ S1, e = .returned (.bool r) ∧ Cx No S w S1 w1 := by
  refine enter Tryz.func5 rfl (by kernel_rfl) rfl ?_
  have C := Cx.refl (F := No) hS
  unfold marigraphlaw08_shown at h
  refine cw_seq fun K1 k2 => ?_
  refine cw_region (sv (asv (.bool false) rfl) (W.e (k2 _ _ ?_)))
  refine cw_seq fun K3 k4 => ?_
  refine cw_region ?_
  obtain ⟨y5, h6, h⟩ := bnd_some h
  refine sc (dc_call (vs := []) can6 rfl ?_)
  refine (index_New_w C.sb  h6).mono ?_
  rintro _ w7 ⟨S8, v10, cs11, fp12, rfl, c9, h13, h14⟩
  refine ⟨_, rfl, ?_⟩
  have h15 : ∀ b, b ∈ fp12 → w.heap.size ≤ b := fun b hb => Nat.le_trans C.up.size (h14 b hb)
  replace C := C.trans c9
  refine sv (asv v10 rfl) (W.e (k4 _ _ ?_))
  refine cw_seq fun K16 k17 => ?_
  refine cw_seq fun K18 k19 => ?_
  refine cw_region (sv (mvv v10 rfl) (sv (rv_nileq Tryz.underlying24 rfl rfl h13.ne) (W.e (k19 _ _ ?_))))
  rcases bif_some h with ⟨b20, h⟩ | ⟨b20, h⟩
  · refine cw_t rfl b20 ?_
    refine cw_seq fun K21 k22 => ?_
    refine cw_region (sv (asv (.bool false) rfl) (W.e (k22 _ _ (cw_ret ?_))))
    obtain rfl := Option.some.inj h
    exact ⟨_, rfl, _, rfl, C⟩
  · refine cw_f rfl b20 (cw_skip (k17 _ _ ?_))
    refine cw_seq fun K23 k24 => ?_
    refine cw_region (sv (rv_build (r := [.string (ByteArray.mk #[97]), .string (ByteArray.mk #[49])]) st46 zr46 rfl) ?_)
    refine sc (dc_lit (vs := [.agg (List.toArray [.string (ByteArray.mk #[97]), .string (ByteArray.mk #[49])])]) (xs := ([(api_Label.mk (ByteArray.mk #[97]) (ByteArray.mk #[49]))] : List api_Label)) (base := w.heap.size) el31 rfl rfl (.cons ((api_Label.o (x := (api_Label.mk (ByteArray.mk #[97]) (ByteArray.mk #[49])))).2 rfl) (.nil)) (Nat.le_of_ble_eq_true rfl) C.up.size C.sb fun v25 w26 h27 h28 u29 => ?_)
    have p30 := ap_fresh h28 (fun b hb => (h13.lt b hb).1)
    replace h13 := h13.nw u29
    replace C := C.new u29
    refine sv (rv_build (r := [.string (ByteArray.mk #[97]), .string (ByteArray.mk #[50])]) st46 zr46 rfl) ?_
    refine sc (dc_lit (vs := [.agg (List.toArray [.string (ByteArray.mk #[97]), .string (ByteArray.mk #[50])])]) (xs := ([(api_Label.mk (ByteArray.mk #[97]) (ByteArray.mk #[50]))] : List api_Label)) (base := w.heap.size) el31 rfl rfl (.cons ((api_Label.o (x := (api_Label.mk (ByteArray.mk #[97]) (ByteArray.mk #[50])))).2 rfl) (.nil)) (Nat.le_of_ble_eq_true rfl) C.up.size C.sb fun v31 w32 h33 h34 u35 => ?_)
    have p36 := ap_fresh h34 (fun b hb => (h13.lt b hb).1)
    have p37 := ap_fresh h34 (fun b hb => (h27.lt b hb).2)
    replace h13 := h13.nw u35
    replace h27 := h27.nw u35
    replace C := C.new u35
    refine sv (asv v25 rfl) (sv (asv v31 rfl) (W.e (k24 _ _ ?_)))
    refine cw_seq fun K38 k39 => ?_
    refine cw_region (sv (mvv v10 rfl) (sv (mvv v25 rfl) ?_))
    replace h13 := h13.or (ap_symm p30)
    replace h33 := h33.or p37
    replace C := C.sealO h27
    replace h27 := h27.sealed
    obtain ⟨y40, h41, h⟩ := bnd_some h
    refine sc (dc_call (vs := [v10, v25]) can14 rfl ?_)
    refine (index_Index_Add_w C.sb h13 h27 h41).mono ?_
    rintro _ w42 ⟨S43, cs45, fp46, rfl, c44, h47, h48⟩
    refine ⟨_, rfl, ?_⟩
    have h49 : ∀ b, b ∈ fp12 → ¬ (Or S8 (Blk v25)) b := fun b hb => (h13.lt b hb).2
    have p50 := ap_grow (ap_symm p36) h48 (fun b hb => (h33.lt b hb).2)
    have h51 : ∀ b, b ∈ fp46 → w.heap.size ≤ b := fun b hb => (h48 b hb).elim (h15 b) (fun hl => Nat.le_trans C.up.size hl)
    replace h27 := h27.cf c44 h49
    replace h33 := h33.cf c44 h49 p36
    replace C := C.ofc c44 (fun b hb => .inr (h15 b hb))
    refine sv (mvv (.tuple (List.toArray [.int .i64 y40.1, .int .i64 y40.2.1])) rfl) (sv (rv_extract rfl rfl) (sv (rv_extract rfl rfl) (sv (asv (.int .i64 y40.1) rfl) (sv (asv (.int .i64 y40.2.1) rfl) (W.e (k39 _ _ ?_))))))
    refine cw_seq fun K52 k53 => ?_
    refine cw_region (sv (mvv v10 rfl) (sv (mvv v31 rfl) ?_))
    replace h47 := h47.or p50
    replace h27 := h27.or (T := Blk v31)
    replace C := C.sealO h33
    replace h33 := h33.sealed
    obtain ⟨y54, h55, h⟩ := bnd_some h
    refine sc (dc_call (vs := [v10, v31]) can14 rfl ?_)
    refine (index_Index_Add_w C.sb h47 h33 h55).mono ?_
    rintro _ w56 ⟨S57, cs59, fp60, rfl, c58, h61, h62⟩
    refine ⟨_, rfl, ?_⟩
    have h63 : ∀ b, b ∈ fp46 → ¬ (Or S43 (Blk v31)) b := fun b hb => (h47.lt b hb).2
    have h64 : ∀ b, b ∈ fp60 → w.heap.size ≤ b := fun b hb => (h62 b hb).elim (h51 b) (fun hl => Nat.le_trans C.up.size hl)
    replace h27 := h27.cf c58 h63
    replace C := C.ofc c58 (fun b hb => .inr (h51 b hb))
    refine sv (mvv (.tuple (List.toArray [.int .i64 y54.1, .int .i64 y54.2.1])) rfl) (sv (rv_extract rfl rfl) (sv (rv_extract rfl rfl) (sv (asv (.int .i64 y54.1) rfl) (sv (asv (.int .i64 y54.2.1) rfl) (W.e (k53 _ _ ?_))))))
    refine cw_seq fun K65 k66 => ?_
    refine cw_region (sv (mvv v10 rfl) (sv (mvv v25 rfl) ?_))
    obtain ⟨y67, h68, h⟩ := bnd_some h
    refine sc (dc_call (vs := [v10, v25]) can14 rfl ?_)
    refine (index_Index_Add_w C.sb h61 h27 h68).mono ?_
    rintro _ w69 ⟨S70, cs72, fp73, rfl, c71, h74, h75⟩
    refine ⟨_, rfl, ?_⟩
    have h76 : ∀ b, b ∈ fp60 → ¬ S57 b := fun b hb => (h61.lt b hb).2
    have h77 : ∀ b, b ∈ fp73 → w.heap.size ≤ b := fun b hb => (h75 b hb).elim (h64 b) (fun hl => Nat.le_trans C.up.size hl)
    replace h27 := h27.cf c71 h76
    replace C := C.ofc c71 (fun b hb => .inr (h64 b hb))
    refine sv (mvv (.tuple (List.toArray [.int .i64 y67.1, .int .i64 y67.2.1])) rfl) (sv (rv_extract rfl rfl) (sv (rv_extract rfl rfl) (sv (asv (.int .i64 y67.1) rfl) (sv (asv (.int .i64 y67.2.1) rfl) (W.e (k66 _ _ ?_))))))
    refine cw_seq fun K78 k79 => ?_
    refine cw_region (sv (mvv v10 rfl) (sv (rv_build (r := [.int .u8 3, .string (ByteArray.mk #[97]), .string (ByteArray.mk #[50])]) st53 zr53 rfl) ?_))
    refine sc (dc_lit (vs := [.agg (List.toArray [.int .u8 3, .string (ByteArray.mk #[97]), .string (ByteArray.mk #[50])])]) (xs := ([(api_Ask.mk (3 : Int) (ByteArray.mk #[97]) (ByteArray.mk #[50]))] : List api_Ask)) (base := w.heap.size) el32 rfl rfl (.cons ((api_Ask.o (x := (api_Ask.mk (3 : Int) (ByteArray.mk #[97]) (ByteArray.mk #[50])))).2 rfl) (.nil)) (Nat.le_of_ble_eq_true rfl) C.up.size C.sb fun v80 w81 h82 h83 u84 => ?_)
    have p85 := ap_fresh h83 (fun b hb => (h74.lt b hb).1)
    replace h74 := h74.nw u84
    replace h27 := h27.nw u84
    replace C := C.new u84
    replace h74 := h74.or (ap_symm p85)
    replace h27 := h27.or (T := Blk v80)
    replace C := C.sealO h82
    replace h82 := h82.sealed
    obtain ⟨y86, h87, h⟩ := bnd_some h
    refine sc (dc_call (vs := [v10, v80]) can15 rfl ?_)
    refine (index_Index_Find_w C.sb h74 h82 h87).mono ?_
    rintro _ w88 ⟨S89, v91, rfl, c90, h92⟩
    refine ⟨_, rfl, ?_⟩
    have p93 := ap_fresh (fun b hb => (h92.lt b hb).1) (fun b hb => (h74.lt b hb).1)
    replace h92 := h92.base C.up.size
    replace h74 := h74.cx c90
    replace h27 := h27.cx c90
    replace C := C.trans c90
    refine sv (mvv (.tuple (List.toArray [v91, .int .i64 y86.2])) rfl) (sv (rv_extract rfl rfl) (sv (rv_extract rfl rfl) (sv (asv v91 rfl) (sv (asv (.int .i64 y86.2) rfl) (W.e (k79 _ _ ?_))))))
    refine cw_seq fun K94 k95 => ?_
    refine cw_region (sv (mvv v10 rfl) ?_)
    obtain ⟨y96, h97, h⟩ := bnd_some h
    refine sc (dc_call (vs := [v10, .int .i64 0]) can16 rfl ?_)
    refine (index_Index_Drop_w C.sb h74 h97).mono ?_
    rintro _ w98 ⟨S99, cs101, fp102, rfl, c100, h103, h104⟩
    refine ⟨_, rfl, ?_⟩
    have h105 : ∀ b, b ∈ fp73 → ¬ S89 b := fun b hb => (h74.lt b hb).2
    have p106 := ap_grow (ap_symm p93) h104 (fun b hb => (h92.lt b hb).2)
    have h107 : ∀ b, b ∈ fp102 → w.heap.size ≤ b := fun b hb => (h104 b hb).elim (h77 b) (fun hl => Nat.le_trans C.up.size hl)
    replace h27 := h27.cf c100 h105
    replace h92 := h92.cf c100 h105 p93
    replace C := C.ofc c100 (fun b hb => .inr (h77 b hb))
    refine sv (asv (.int .i64 y96.1) rfl) (W.e (k95 _ _ ?_))
    refine cw_seq fun K108 k109 => ?_
    refine cw_region (sv (mvv v10 rfl) (sv (mvv v25 rfl) ?_))
    obtain ⟨y110, h111, h⟩ := bnd_some h
    refine sc (dc_call (vs := [v10, v25]) can14 rfl ?_)
    refine (index_Index_Add_w C.sb h103 h27 h111).mono ?_
    rintro _ w112 ⟨S113, cs115, fp116, rfl, c114, h117, h118⟩
    refine ⟨_, rfl, ?_⟩
    have h119 : ∀ b, b ∈ fp102 → ¬ S99 b := fun b hb => (h103.lt b hb).2
    have p120 := ap_grow p106 h118 (fun b hb => (h92.lt b hb).2)
    have h121 : ∀ b, b ∈ fp116 → w.heap.size ≤ b := fun b hb => (h118 b hb).elim (h107 b) (fun hl => Nat.le_trans C.up.size hl)
    replace h92 := h92.cf c114 h119 (ap_symm p106)
    replace C := C.ofc c114 (fun b hb => .inr (h107 b hb))
    refine sv (mvv (.tuple (List.toArray [.int .i64 y110.1, .int .i64 y110.2.1])) rfl) (sv (rv_extract rfl rfl) (sv (rv_extract rfl rfl) (sv (asv (.int .i64 y110.1) rfl) (sv (asv (.int .i64 y110.2.1) rfl) (W.e (k109 _ _ ?_))))))
    obtain ⟨o122, h125, h⟩ := bnd_some h
    refine cw_seq' (fun ρ w1 => ∃ S1, Cx No S w S1 w1 ∧ Has ρ [(0, .bool o122)]) ?_ ?_
    · refine cw_region (sv (mvv (.int .i64 y40.1) rfl) (sv (rv_eql rfl rfl) (sv (mvv (.bool (y40.1 == (0 : Int))) rfl) ?_)))
      rcases bif_some h125 with ⟨b126, h125⟩ | ⟨b126, h125⟩
      · refine W.v (gy rfl rfl rfl b126) (mvv (.int .i64 y54.1) rfl) (W.v (gy rfl rfl rfl b126) (rv_eql rfl rfl) (sv (ptk (.bool (y54.1 == (1 : Int))) rfl b126 rfl) (sv (mvv (.bool (y54.1 == (1 : Int))) rfl) ?_)))
        rcases bif_some h125 with ⟨b127, h125⟩ | ⟨b127, h125⟩
        · refine W.v (gy rfl rfl rfl b127) (mvv (.int .i64 y67.1) rfl) (W.v (gy rfl rfl rfl b127) (rv_eql rfl rfl) (sv (ptk (.bool (y67.1 == (0 : Int))) rfl b127 rfl) (sv (mvv (.bool (y67.1 == (0 : Int))) rfl) ?_)))
          rcases bif_some h125 with ⟨b128, h125⟩ | ⟨b128, h125⟩
          · refine W.v (gy rfl rfl rfl b128) (mvv (.int .i64 y110.1) rfl) (W.v (gy rfl rfl rfl b128) (rv_eql rfl rfl) (sv (ptk (.bool (y110.1 == (2 : Int))) rfl b128 rfl) (sv (mvv (.bool (y110.1 == (2 : Int))) rfl) ?_)))
            rcases bif_some h125 with ⟨b129, h125⟩ | ⟨b129, h125⟩
            · refine W.v (gy rfl rfl rfl b129) (mvv (.int .i64 y40.2.1) rfl) (W.v (gy rfl rfl rfl b129) (rv_eql rfl rfl) (sv (ptk (.bool (y40.2.1 == (0 : Int))) rfl b129 rfl) (sv (mvv (.bool (y40.2.1 == (0 : Int))) rfl) ?_)))
              rcases bif_some h125 with ⟨b130, h125⟩ | ⟨b130, h125⟩
              · refine W.v (gy rfl rfl rfl b130) (mvv (.int .i64 y54.2.1) rfl) (W.v (gy rfl rfl rfl b130) (rv_eql rfl rfl) (sv (ptk (.bool (y54.2.1 == (0 : Int))) rfl b130 rfl) (sv (mvv (.bool (y54.2.1 == (0 : Int))) rfl) ?_)))
                rcases bif_some h125 with ⟨b131, h125⟩ | ⟨b131, h125⟩
                · refine W.v (gy rfl rfl rfl b131) (mvv (.int .i64 y67.2.1) rfl) (W.v (gy rfl rfl rfl b131) (rv_eql rfl rfl) (sv (ptk (.bool (y67.2.1 == (0 : Int))) rfl b131 rfl) (sv (mvv (.bool (y67.2.1 == (0 : Int))) rfl) ?_)))
                  rcases bif_some h125 with ⟨b132, h125⟩ | ⟨b132, h125⟩
                  · refine W.v (gy rfl rfl rfl b132) (mvv (.int .i64 y86.2) rfl) (W.v (gy rfl rfl rfl b132) (rv_eql rfl rfl) (sv (ptk (.bool (y86.2 == (0 : Int))) rfl b132 rfl) (sv (mvv (.bool (y86.2 == (0 : Int))) rfl) ?_)))
                    rcases bif_some h125 with ⟨b133, h125⟩ | ⟨b133, h125⟩
                    · refine W.v (gy rfl rfl rfl b133) (mvv (.int .i64 y96.1) rfl) (W.v (gy rfl rfl rfl b133) (rv_eql rfl rfl) (sv (ptk (.bool (y96.1 == (0 : Int))) rfl b133 rfl) (sv (mvv (.bool (y96.1 == (0 : Int))) rfl) ?_)))
                      rcases bif_some h125 with ⟨b134, h125⟩ | ⟨b134, h125⟩
                      · refine W.v (gy rfl rfl rfl b134) (mvv (.int .i64 y110.2.1) rfl) (W.v (gy rfl rfl rfl b134) (rv_eql rfl rfl) (sv (ptk (.bool (y110.2.1 == (0 : Int))) rfl b134 rfl) (sv (mvv (.bool (y110.2.1 == (0 : Int))) rfl) ?_)))
                        rcases bif_some h125 with ⟨b135, h125⟩ | ⟨b135, h125⟩
                        · refine W.v (gy rfl rfl rfl b135) (mvv v91 rfl) ?_
                          refine W.c (gy rfl rfl rfl b135) (dc_lit (vs := [.int .i64 1]) (xs := ([(1 : Int)] : List Int)) (base := w.heap.size) el49 rfl rfl (.cons (sl_sc.2 rfl) (.nil)) (Nat.le_of_ble_eq_true rfl) C.up.size C.sb fun v136 w137 h138 h139 u140 => ?_)
                          have p141 := ap_fresh h139 (fun b hb => (h92.lt b hb).2)
                          replace h92 := h92.nw u140
                          replace C := C.new u140
                          replace h138 := h138.or p141
                          replace C := C.sealO h92
                          replace h92 := h92.sealed
                          replace h92 := h92.or (T := Blk v136)
                          replace C := C.sealO h138
                          replace h138 := h138.sealed
                          obtain ⟨y142, h143, h125⟩ := bnd_some h125
                          refine W.c (gy rfl rfl rfl b135) (dc_call (vs := [v91, v136]) can17 rfl ?_)
                          refine (marigraphref04_Ints_w C.sb h92 h138 h143).mono ?_
                          rintro _ w144 ⟨S145, rfl, c146⟩
                          refine ⟨_, rfl, ?_⟩
                          replace C := C.trans c146
                          refine sv (ptk (.bool y142) rfl b135 rfl) (sv (asv (.bool y142) rfl) (W.e ?_))
                          obtain rfl := Option.some.inj h125
                          exact ⟨_, C, ⟨rfl, trivial⟩⟩
                        · refine W.n (gn rfl rfl rfl b135) (W.n (gn rfl rfl rfl b135) (W.n (gn rfl rfl rfl b135) (sv (pfk (.bool false) rfl b135 rfl) (sv (asv (.bool false) rfl) (W.e ?_)))))
                          obtain rfl := Option.some.inj h125
                          exact ⟨_, C, ⟨rfl, trivial⟩⟩
                      · refine W.n (gn rfl rfl rfl b134) (W.n (gn rfl rfl rfl b134) (sv (pfk (.bool false) rfl b134 rfl) (sv (mvv (.bool false) rfl) (W.n (gn rfl rfl rfl rfl) (W.n (gn rfl rfl rfl rfl) (W.n (gn rfl rfl rfl rfl) (sv (pfk (.bool false) rfl rfl rfl) (sv (asv (.bool false) rfl) (W.e ?_)))))))))
                        obtain rfl := Option.some.inj h125
                        exact ⟨_, C, ⟨rfl, trivial⟩⟩
                    · refine W.n (gn rfl rfl rfl b133) (W.n (gn rfl rfl rfl b133) (sv (pfk (.bool false) rfl b133 rfl) (sv (mvv (.bool false) rfl) (W.n (gn rfl rfl rfl rfl) (W.n (gn rfl rfl rfl rfl) (sv (pfk (.bool false) rfl rfl rfl) (sv (mvv (.bool false) rfl) (W.n (gn rfl rfl rfl rfl) (W.n (gn rfl rfl rfl rfl) (W.n (gn rfl rfl rfl rfl) (sv (pfk (.bool false) rfl rfl rfl) ?_)))))))))))
                      refine sv (asv (.bool false) rfl) (W.e ?_)
                      obtain rfl := Option.some.inj h125
                      exact ⟨_, C, ⟨rfl, trivial⟩⟩
                  · refine W.n (gn rfl rfl rfl b132) (W.n (gn rfl rfl rfl b132) (sv (pfk (.bool false) rfl b132 rfl) (sv (mvv (.bool false) rfl) (W.n (gn rfl rfl rfl rfl) (W.n (gn rfl rfl rfl rfl) (sv (pfk (.bool false) rfl rfl rfl) (sv (mvv (.bool false) rfl) (W.n (gn rfl rfl rfl rfl) (W.n (gn rfl rfl rfl rfl) (sv (pfk (.bool false) rfl rfl rfl) (sv (mvv (.bool false) rfl) ?_)))))))))))
                    refine W.n (gn rfl rfl rfl rfl) (W.n (gn rfl rfl rfl rfl) (W.n (gn rfl rfl rfl rfl) (sv (pfk (.bool false) rfl rfl rfl) (sv (asv (.bool false) rfl) (W.e ?_)))))
                    obtain rfl := Option.some.inj h125
                    exact ⟨_, C, ⟨rfl, trivial⟩⟩
                · refine W.n (gn rfl rfl rfl b131) (W.n (gn rfl rfl rfl b131) (sv (pfk (.bool false) rfl b131 rfl) (sv (mvv (.bool false) rfl) (W.n (gn rfl rfl rfl rfl) (W.n (gn rfl rfl rfl rfl) (sv (pfk (.bool false) rfl rfl rfl) (sv (mvv (.bool false) rfl) (W.n (gn rfl rfl rfl rfl) (W.n (gn rfl rfl rfl rfl) (sv (pfk (.bool false) rfl rfl rfl) (sv (mvv (.bool false) rfl) ?_)))))))))))
                  refine W.n (gn rfl rfl rfl rfl) (W.n (gn rfl rfl rfl rfl) (sv (pfk (.bool false) rfl rfl rfl) (sv (mvv (.bool false) rfl) (W.n (gn rfl rfl rfl rfl) (W.n (gn rfl rfl rfl rfl) (W.n (gn rfl rfl rfl rfl) (sv (pfk (.bool false) rfl rfl rfl) (sv (asv (.bool false) rfl) (W.e ?_)))))))))
                  obtain rfl := Option.some.inj h125
                  exact ⟨_, C, ⟨rfl, trivial⟩⟩
              · refine W.n (gn rfl rfl rfl b130) (W.n (gn rfl rfl rfl b130) (sv (pfk (.bool false) rfl b130 rfl) (sv (mvv (.bool false) rfl) (W.n (gn rfl rfl rfl rfl) (W.n (gn rfl rfl rfl rfl) (sv (pfk (.bool false) rfl rfl rfl) (sv (mvv (.bool false) rfl) (W.n (gn rfl rfl rfl rfl) (W.n (gn rfl rfl rfl rfl) (sv (pfk (.bool false) rfl rfl rfl) (sv (mvv (.bool false) rfl) ?_)))))))))))
                refine W.n (gn rfl rfl rfl rfl) (W.n (gn rfl rfl rfl rfl) (sv (pfk (.bool false) rfl rfl rfl) (sv (mvv (.bool false) rfl) (W.n (gn rfl rfl rfl rfl) (W.n (gn rfl rfl rfl rfl) (sv (pfk (.bool false) rfl rfl rfl) (sv (mvv (.bool false) rfl) (W.n (gn rfl rfl rfl rfl) (W.n (gn rfl rfl rfl rfl) (W.n (gn rfl rfl rfl rfl) (sv (pfk (.bool false) rfl rfl rfl) ?_)))))))))))
                refine sv (asv (.bool false) rfl) (W.e ?_)
                obtain rfl := Option.some.inj h125
                exact ⟨_, C, ⟨rfl, trivial⟩⟩
            · refine W.n (gn rfl rfl rfl b129) (W.n (gn rfl rfl rfl b129) (sv (pfk (.bool false) rfl b129 rfl) (sv (mvv (.bool false) rfl) (W.n (gn rfl rfl rfl rfl) (W.n (gn rfl rfl rfl rfl) (sv (pfk (.bool false) rfl rfl rfl) (sv (mvv (.bool false) rfl) (W.n (gn rfl rfl rfl rfl) (W.n (gn rfl rfl rfl rfl) (sv (pfk (.bool false) rfl rfl rfl) (sv (mvv (.bool false) rfl) ?_)))))))))))
              refine W.n (gn rfl rfl rfl rfl) (W.n (gn rfl rfl rfl rfl) (sv (pfk (.bool false) rfl rfl rfl) (sv (mvv (.bool false) rfl) (W.n (gn rfl rfl rfl rfl) (W.n (gn rfl rfl rfl rfl) (sv (pfk (.bool false) rfl rfl rfl) (sv (mvv (.bool false) rfl) (W.n (gn rfl rfl rfl rfl) (W.n (gn rfl rfl rfl rfl) (sv (pfk (.bool false) rfl rfl rfl) (sv (mvv (.bool false) rfl) ?_)))))))))))
              refine W.n (gn rfl rfl rfl rfl) (W.n (gn rfl rfl rfl rfl) (W.n (gn rfl rfl rfl rfl) (sv (pfk (.bool false) rfl rfl rfl) (sv (asv (.bool false) rfl) (W.e ?_)))))
              obtain rfl := Option.some.inj h125
              exact ⟨_, C, ⟨rfl, trivial⟩⟩
          · refine W.n (gn rfl rfl rfl b128) (W.n (gn rfl rfl rfl b128) (sv (pfk (.bool false) rfl b128 rfl) (sv (mvv (.bool false) rfl) (W.n (gn rfl rfl rfl rfl) (W.n (gn rfl rfl rfl rfl) (sv (pfk (.bool false) rfl rfl rfl) (sv (mvv (.bool false) rfl) (W.n (gn rfl rfl rfl rfl) (W.n (gn rfl rfl rfl rfl) (sv (pfk (.bool false) rfl rfl rfl) (sv (mvv (.bool false) rfl) ?_)))))))))))
            refine W.n (gn rfl rfl rfl rfl) (W.n (gn rfl rfl rfl rfl) (sv (pfk (.bool false) rfl rfl rfl) (sv (mvv (.bool false) rfl) (W.n (gn rfl rfl rfl rfl) (W.n (gn rfl rfl rfl rfl) (sv (pfk (.bool false) rfl rfl rfl) (sv (mvv (.bool false) rfl) (W.n (gn rfl rfl rfl rfl) (W.n (gn rfl rfl rfl rfl) (sv (pfk (.bool false) rfl rfl rfl) (sv (mvv (.bool false) rfl) ?_)))))))))))
            refine W.n (gn rfl rfl rfl rfl) (W.n (gn rfl rfl rfl rfl) (sv (pfk (.bool false) rfl rfl rfl) (sv (mvv (.bool false) rfl) (W.n (gn rfl rfl rfl rfl) (W.n (gn rfl rfl rfl rfl) (W.n (gn rfl rfl rfl rfl) (sv (pfk (.bool false) rfl rfl rfl) (sv (asv (.bool false) rfl) (W.e ?_)))))))))
            obtain rfl := Option.some.inj h125
            exact ⟨_, C, ⟨rfl, trivial⟩⟩
        · refine W.n (gn rfl rfl rfl b127) (W.n (gn rfl rfl rfl b127) (sv (pfk (.bool false) rfl b127 rfl) (sv (mvv (.bool false) rfl) (W.n (gn rfl rfl rfl rfl) (W.n (gn rfl rfl rfl rfl) (sv (pfk (.bool false) rfl rfl rfl) (sv (mvv (.bool false) rfl) (W.n (gn rfl rfl rfl rfl) (W.n (gn rfl rfl rfl rfl) (sv (pfk (.bool false) rfl rfl rfl) (sv (mvv (.bool false) rfl) ?_)))))))))))
          refine W.n (gn rfl rfl rfl rfl) (W.n (gn rfl rfl rfl rfl) (sv (pfk (.bool false) rfl rfl rfl) (sv (mvv (.bool false) rfl) (W.n (gn rfl rfl rfl rfl) (W.n (gn rfl rfl rfl rfl) (sv (pfk (.bool false) rfl rfl rfl) (sv (mvv (.bool false) rfl) (W.n (gn rfl rfl rfl rfl) (W.n (gn rfl rfl rfl rfl) (sv (pfk (.bool false) rfl rfl rfl) (sv (mvv (.bool false) rfl) ?_)))))))))))
          refine W.n (gn rfl rfl rfl rfl) (W.n (gn rfl rfl rfl rfl) (sv (pfk (.bool false) rfl rfl rfl) (sv (mvv (.bool false) rfl) (W.n (gn rfl rfl rfl rfl) (W.n (gn rfl rfl rfl rfl) (sv (pfk (.bool false) rfl rfl rfl) (sv (mvv (.bool false) rfl) (W.n (gn rfl rfl rfl rfl) (W.n (gn rfl rfl rfl rfl) (W.n (gn rfl rfl rfl rfl) (sv (pfk (.bool false) rfl rfl rfl) ?_)))))))))))
          refine sv (asv (.bool false) rfl) (W.e ?_)
          obtain rfl := Option.some.inj h125
          exact ⟨_, C, ⟨rfl, trivial⟩⟩
      · refine W.n (gn rfl rfl rfl b126) (W.n (gn rfl rfl rfl b126) (sv (pfk (.bool false) rfl b126 rfl) (sv (mvv (.bool false) rfl) (W.n (gn rfl rfl rfl rfl) (W.n (gn rfl rfl rfl rfl) (sv (pfk (.bool false) rfl rfl rfl) (sv (mvv (.bool false) rfl) (W.n (gn rfl rfl rfl rfl) (W.n (gn rfl rfl rfl rfl) (sv (pfk (.bool false) rfl rfl rfl) (sv (mvv (.bool false) rfl) ?_)))))))))))
        refine W.n (gn rfl rfl rfl rfl) (W.n (gn rfl rfl rfl rfl) (sv (pfk (.bool false) rfl rfl rfl) (sv (mvv (.bool false) rfl) (W.n (gn rfl rfl rfl rfl) (W.n (gn rfl rfl rfl rfl) (sv (pfk (.bool false) rfl rfl rfl) (sv (mvv (.bool false) rfl) (W.n (gn rfl rfl rfl rfl) (W.n (gn rfl rfl rfl rfl) (sv (pfk (.bool false) rfl rfl rfl) (sv (mvv (.bool false) rfl) ?_)))))))))))
        refine W.n (gn rfl rfl rfl rfl) (W.n (gn rfl rfl rfl rfl) (sv (pfk (.bool false) rfl rfl rfl) (sv (mvv (.bool false) rfl) (W.n (gn rfl rfl rfl rfl) (W.n (gn rfl rfl rfl rfl) (sv (pfk (.bool false) rfl rfl rfl) (sv (mvv (.bool false) rfl) (W.n (gn rfl rfl rfl rfl) (W.n (gn rfl rfl rfl rfl) (sv (pfk (.bool false) rfl rfl rfl) (sv (mvv (.bool false) rfl) ?_)))))))))))
        refine W.n (gn rfl rfl rfl rfl) (W.n (gn rfl rfl rfl rfl) (W.n (gn rfl rfl rfl rfl) (sv (pfk (.bool false) rfl rfl rfl) (sv (asv (.bool false) rfl) (W.e ?_)))))
        obtain rfl := Option.some.inj h125
        exact ⟨_, C, ⟨rfl, trivial⟩⟩
    · rintro ρ w148 ⟨S147, C, h149⟩
      refine h149.cw fun ρ => ?_
      clear h149
      refine cw_ret ?_
      obtain rfl := Option.some.inj h
      exact ⟨_, rfl, _, rfl, C⟩

noncomputable def marigraphlaw08_acts (a0 : List marigraphlaw08_Act) : Option (List marigraphlaw08_Act) :=
  (pur (if (300 : Int) < (a0.length : Int) then (300 : Int) else (a0.length : Int)) fun y5 => ((upto_ a0 y5).bind fun y7 => some y7))
set_option maxRecDepth 100000 in
set_option maxHeartbeats 4000000 in
theorem marigraphlaw08_acts_w {S : Nat → Prop} {w : World} {a0 : List marigraphlaw08_Act} {v0 : Value} {r : (List marigraphlaw08_Act)} (hS : Sb S w) (h0 : Sl (kSl marigraphlaw08_Act.k) S w v0 a0) (h : marigraphlaw08_acts a0 = some r) :
    Calls Tryz.prog 7 (List.toArray [v0]) w fun e w1 => ∃ S1 u0, e = .returned (u0) ∧ Cx No S w S1 w1 ∧ Sl (kSl marigraphlaw08_Act.k) S1 w1 u0 r := by
  refine enter Tryz.func7 rfl (by kernel_rfl) rfl ?_
  have C := Cx.refl (F := No) hS
  unfold marigraphlaw08_acts at h
  refine cw_seq fun K1 k2 => ?_
  refine cw_region (sv (asv (.slice none 0 0) rfl) (W.e (k2 _ _ ?_)))
  refine cw_seq fun K3 k4 => ?_
  refine cw_region (sv (mvv v0 rfl) (sv (mvv v0 rfl) (sv (rv_lenS el22 h0 rfl) ?_)))
  obtain ⟨y5, h6, h⟩ := pur_some h
  refine sv (rv_min rfl rfl h6) ?_
  obtain ⟨y7, h8, h⟩ := bnd_some h
  obtain ⟨v9, h10, h11⟩ := rv_uptoA (P := Tryz.prog) el22 h0 h8
  refine sv (h11 rfl rfl) (sv (asv v9 rfl) (W.e (k4 _ _ (cw_ret ?_))))
  obtain rfl := Option.some.inj h
  exact ⟨_, rfl, _, _, rfl, C, h10⟩

noncomputable def marigraphref08_Index_at.b2 (a0 : marigraphref08_Index) (a1 : Int) (x13 : Int) : Option ((Int) ⊕ ((Unit) ⊕ (Int))) :=
  (bif (decide (x13 < (a0.S.length : Int))) then ((at_ a0.S x13).bind fun y31 => (bif (y31.Id == a1) then some (.inr (.inr x13)) else (pur (IntKind.i64.wrap (x13 + (1 : Int))) fun y42 => some (.inl y42)))) else some (.inr (.inl ())))
noncomputable def marigraphref08_Index_at (a0 : marigraphref08_Index) (a1 : Int) : Option Int :=
  ((iter (fun s : Int => marigraphref08_Index_at.b2 a0 a1 s) (0 : Int)).bind (Sum.elim (fun o3n => some (-1 : Int)) (fun q => some q)))
set_option maxRecDepth 100000 in
set_option maxHeartbeats 4000000 in
theorem marigraphref08_Index_at_w {S : Nat → Prop} {w : World} {a0 : marigraphref08_Index} {a1 : Int} {v0 : Value} {cs0 : List Value} {fp0 : List Nat} {r : Int} (hS : Sb S w) (h0 : Ob 29 (marigraphref08_Index.fs a0) S w v0 cs0 fp0) (h : marigraphref08_Index_at a0 a1 = some r) :
    Calls Tryz.prog 54 (List.toArray [v0, .int .i64 a1]) w fun e w1 => ∃ S1, e = .returned (.int .i64 r) ∧ Cx No S w S1 w1 := by
  refine enter Tryz.func54 rfl (by kernel_rfl) rfl ?_
  have C := Cx.refl (F := No) hS
  unfold marigraphref08_Index_at at h
  have hl0 : ∀ b ∈ fp0, b < w.heap.size := fun b hb => (h0.lt b hb).1
  refine cw_seq fun K1 k2 => ?_
  refine cw_region (sv (asv (.int .i64 0) rfl) (W.e (k2 _ _ ?_)))
  obtain ⟨o3, h6, h⟩ := bnds_some h
  refine cw_seq' (fun ρ w1 => ∃ o3n, o3 = (.inl o3n) ∧ ∃ S1, Cx No S w S1 w1 ∧ Has ρ []) ?_ ?_
  · refine cw_seq fun K7 k8 => ?_
    refine cw_region (sv (asv (.int .i64 0) rfl) (W.e (k8 _ _ (cw_block ?_))))
    refine cw_iter h6 (fun s ρ w1 => ∃ S1, Cx No S w S1 w1 ∧ Has ρ [(0, v0), (1, .int .i64 a1), (5, .int .i64 s)] ∧ Ob 29 (marigraphref08_Index.fs a0) S1 w1 v0 cs0 fp0) ⟨_, C, ⟨rfl, rfl, rfl, trivial⟩, h0⟩ ?_
    rintro x13 q9 ρ w11 ⟨S10, C, h12, h0⟩ h15 h14
    refine h12.cw fun ρ => ?_
    clear h12
    replace h15 : marigraphref08_Index_at.b2 a0 a1 x13 = some q9 := h15
    unfold marigraphref08_Index_at.b2 at h15
    refine cw_seq fun K16 k17 => ?_
    refine cw_seq fun K18 k19 => ?_
    refine cw_region (sv (mvv (.int .i64 x13) rfl) (sv (mvv v0 rfl) (sv (rv_nilcheck rfl h0.ptr) (sv (rv_fieldAddr (b := pb v0) (o := 0) st29 rfl h0.ptr) ?_))))
    obtain ⟨c20, h21, h22⟩ := h0.sl (i := 0) rfl
    refine sr (rw_ofield (i := 0) (c := c20) h0 ag27 h21 rfl) (sv (rv_lenS el27 h22 rfl) (sv (rv_lss rfl rfl) (W.e (k19 _ _ ?_))))
    rcases bif_some h15 with ⟨b23, h15⟩ | ⟨b23, h15⟩
    · refine cw_t rfl b23 (cw_skip (k17 _ _ ?_))
      refine cw_seq fun K24 k25 => ?_
      refine cw_block ?_
      refine cw_seq fun K26 k27 => ?_
      refine cw_region (sv (mvv v0 rfl) (sv (rv_nilcheck rfl h0.ptr) (sv (rv_fieldAddr (b := pb v0) (o := 0) st29 rfl h0.ptr) ?_)))
      obtain ⟨c28, h29, h30⟩ := h0.sl (i := 0) rfl
      refine sr (rw_ofield (i := 0) (c := c28) h0 ag27 h29 rfl) (sv (mvv (.int .i64 x13) rfl) ?_)
      obtain ⟨y31, h32, h15⟩ := bnd_some h15
      refine sv (rv_index el27 h30 rfl rfl h32) (sv (rv_fieldAddr st79 rfl rfl) ?_)
      obtain ⟨cs33, h34, h35⟩ := Sl.cells h30 h32
      obtain ⟨c36, rfl, g37⟩ := marigraphref08_Series.r.1 h34
      refine sr (rw_el1 (off := 0) ag3 (h35 _ (Sm.refl _ _)) rfl rfl) (sv (mvv (.int .i64 a1) rfl) (sv (rv_eql rfl rfl) (W.e (k27 _ _ ?_))))
      rcases bif_some h15 with ⟨b38, h15⟩ | ⟨b38, h15⟩
      · refine cw_t rfl b38 ?_
        refine cw_seq fun K39 k40 => ?_
        refine cw_region (sv (mvv (.int .i64 x13) rfl) (sv (asv (.int .i64 x13) rfl) (W.e (k40 _ _ (cw_ret ?_)))))
        obtain rfl := Option.some.inj h15
        have h41 := congrArg some h14
        obtain rfl := Option.some.inj h41
        replace h := h.2 _ rfl
        obtain rfl := Option.some.inj h
        exact ⟨_, rfl, _, rfl, C⟩
      · refine cw_f rfl b38 (cw_skip (k25 _ _ (cw_region (sv (mvv (.int .i64 x13) rfl) ?_))))
        obtain ⟨y42, h43, h15⟩ := pur_some h15
        refine sv (rv_add rfl rfl h43) (sv (asv (.int .i64 y42) rfl) (W.e ?_))
        obtain rfl := Option.some.inj h15
        exact ⟨_, rfl, ⟨_, C, ⟨rfl, rfl, rfl, trivial⟩, h0⟩⟩
    · refine cw_f rfl b23 (cw_exit ?_)
      obtain rfl := Option.some.inj h15
      have h44 := congrArg some h14
      obtain rfl := Option.some.inj h44
      exact ⟨_, rfl, ⟨_, C, trivial⟩⟩
  · rintro ρ w46 ⟨o3n, rfl, ⟨S45, C, h47⟩⟩
    replace h := h.1 _ rfl
    refine h47.cw fun ρ => ?_
    clear h47
    refine cw_seq fun K48 k49 => ?_
    refine cw_region (sv (asv (.int .i64 (-1)) rfl) (W.e (k49 _ _ (cw_ret ?_))))
    obtain rfl := Option.some.inj h
    exact ⟨_, rfl, _, rfl, C⟩

noncomputable def marigraphref08_Index_Drop (a0 : marigraphref08_Index) (a1 : Int) : Option (Int × marigraphref08_Index) :=
  ((marigraphref08_Index_at a0 a1).bind fun y5 => (bif (decide (y5 < (0 : Int))) then some ((2 : Int), a0) else ((upto_ a0.S y5).bind fun y25 => (pur (IntKind.i64.wrap (y5 + (1 : Int))) fun y33 => ((from_ a0.S y33).bind fun y35 => ((app_ 32 ([] : List marigraphref08_Series) y25).bind fun y48 => ((app_ 32 y48 y35).bind fun y59 => (pur ({ a0 with S := y59 } : marigraphref08_Index) fun y70 => some ((0 : Int), y70)))))))))
set_option maxRecDepth 100000 in
set_option maxHeartbeats 4000000 in
theorem marigraphref08_Index_Drop_w {S : Nat → Prop} {w : World} {a0 : marigraphref08_Index} {a1 : Int} {v0 : Value} {cs0 : List Value} {fp0 : List Nat} {r : Int × marigraphref08_Index} (hS : Sb S w) (h0 : Ob 29 (marigraphref08_Index.fs a0) S w v0 cs0 fp0) (h : marigraphref08_Index_Drop a0 a1 = some r) :
    Calls Tryz.prog 18 (List.toArray [v0, .int .i64 a1]) w fun e w1 => ∃ S1 us_0 up_0, e = .returned (.int .i64 r.1) ∧ Cx (fun b => b ∈ fp0) S w S1 w1 ∧ Ob 29 (marigraphref08_Index.fs r.2) S1 w1 v0 us_0 up_0 ∧ (∀ b, b ∈ up_0 → b ∈ fp0 ∨ w.heap.size ≤ b) := by
  refine enter Tryz.func18 rfl (by kernel_rfl) rfl ?_
  have C := Cx.refl (F := (fun b => b ∈ fp0)) hS
  unfold marigraphref08_Index_Drop at h
  have hs0 : ∀ b, b ∈ fp0 → b ∈ fp0 ∨ w.heap.size ≤ b := fun b hb => .inl hb
  have hl0 : ∀ b ∈ fp0, b < w.heap.size := fun b hb => (h0.lt b hb).1
  refine cw_seq fun K1 k2 => ?_
  refine cw_region (sv (asv (.int .i64 0) rfl) (W.e (k2 _ _ ?_)))
  refine cw_seq fun K3 k4 => ?_
  refine cw_region (sv (mvv v0 rfl) (sv (mvv (.int .i64 a1) rfl) ?_))
  obtain ⟨y5, h6, h⟩ := bnd_some h
  refine sc (dc_call (vs := [v0, .int .i64 a1]) can54 rfl ?_)
  refine (marigraphref08_Index_at_w C.sb h0 h6).mono ?_
  rintro _ w7 ⟨S8, rfl, c9⟩
  refine ⟨_, rfl, ?_⟩
  replace h0 := h0.cx c9
  replace C := C.trans c9
  refine sv (asv (.int .i64 y5) rfl) (W.e (k4 _ _ ?_))
  refine cw_seq fun K10 k11 => ?_
  refine cw_seq fun K12 k13 => ?_
  refine cw_region (sv (mvv (.int .i64 y5) rfl) (sv (rv_lss rfl rfl) (W.e (k13 _ _ ?_))))
  rcases bif_some h with ⟨b14, h⟩ | ⟨b14, h⟩
  · refine cw_t rfl b14 ?_
    refine cw_seq fun K15 k16 => ?_
    refine cw_region (sv (asv (.int .i64 2) rfl) (W.e (k16 _ _ (cw_ret ?_))))
    obtain rfl := Option.some.inj h
    exact ⟨_, rfl, _, _, _, rfl, C, h0, hs0⟩
  · refine cw_f rfl b14 (cw_skip (k11 _ _ ?_))
    refine cw_seq fun K17 k18 => ?_
    refine cw_drawU (.one 0 true (.one 2 true (.one 3 true (.one 4 true (.one 5 true (.one 6 true (.one 7 true (.one 9 true (.one 10 true (.one 11 true (.one 12 true (.one 13 true (.one 14 true (.one 15 true (.one 1 false (.one 8 false (.one 16 false (.one 17 true (.one 18 true (.one 19 false .done)))))))))))))))))))) [(5, [10]), (12, [10])] [(1, [10]), (8, [10]), (16, [10]), (19, [])] (fun c => bif Nat.beq c 10 then (One (pb v0)) else No) fol (by kernel_rfl) fun w19 u20 => ?_
    replace h0 := h0.nw u20
    replace C := C.new u20
    have h0d := h0
    have m21 := Sm.refl (One (pb v0)) w19
    refine mtv rfl rfl (mvv v0 rfl) (mtv rfl rfl (mvv v0 rfl) (mtv rfl rfl (rv_nilcheck rfl h0.ptr) (mtv rfl rfl (rv_fieldAddr (b := pb v0) (o := 0) st29 rfl h0.ptr) ?_)))
    obtain ⟨c22, h23, h24⟩ := h0.sl (i := 0) rfl
    refine mtr rfl rfl ⟨m21, trivial⟩ (fun w' hq => rw_ofieldU (i := 0) (c := c22) h0 hq.1 ag27 h23 rfl) (mtv rfl rfl (mvv (.int .i64 y5) rfl) ?_)
    obtain ⟨y25, h26, h⟩ := bnd_some h
    obtain ⟨v27, h28, h29⟩ := rv_uptoA (P := Tryz.prog) el27 h24 h26
    refine mtv rfl rfl (h29 rfl rfl) (mtv rfl rfl (mvv v0 rfl) (mtv rfl rfl (rv_nilcheck rfl h0.ptr) (mtv rfl rfl (rv_fieldAddr (b := pb v0) (o := 0) st29 rfl h0.ptr) ?_)))
    obtain ⟨c30, h31, h32⟩ := h0.sl (i := 0) rfl
    refine mtr rfl rfl ⟨m21, trivial⟩ (fun w' hq => rw_ofieldU (i := 0) (c := c30) h0 hq.1 ag27 h31 rfl) (mtv rfl rfl (mvv (.int .i64 y5) rfl) ?_)
    obtain ⟨y33, h34, h⟩ := pur_some h
    refine mtv rfl rfl (rv_add rfl rfl h34) ?_
    obtain ⟨y35, h36, h⟩ := bnd_some h
    obtain ⟨v37, h38, h39⟩ := rv_fromA (P := Tryz.prog) el27 h32 h36
    refine mtv rfl rfl (h39 rfl rfl) ?_
    refine mtc rfl rfl (dc_lit (vs := []) (xs := ([] : List marigraphref08_Series)) (base := w.heap.size) el27 rfl rfl (.nil) (Nat.le_of_ble_eq_true rfl) C.up.size C.sb fun v40 w41 h42 h43 u44 => ?_)
    have p45 := ap_fresh h43 (fun b hb => (h0.lt b hb).1)
    replace h28 := h28.nw u44
    replace h38 := h38.nw u44
    replace h0 := h0.nw u44
    replace C := C.new u44
    have z46 := (u44).size
    have m47 := m21.nx u44 (by omega)
    refine ⟨⟨m47, trivial⟩, ?_⟩
    obtain ⟨y48, h49, h⟩ := bnd_some h
    have h55 := h42
    refine mtc rfl rfl (dc_append el27 (by decide) h55 (h28.src fun _ h => h) rfl rfl h49 C.up.size C.sb fun v50 w51 h52 u53 h54 => ?_)
    have p56 := ap_grow p45 h54 (fun b hb => (h0.lt b hb).1)
    replace h38 := h38.wr u53 h55.not
    replace h0 := h0.wr u53 h55.not (ap_symm p45)
    replace C := C.ow h55 u53
    have z57 := (u53).size
    have m58 := m47.wrC u53 (by omega) (ap_one p45 h0.hd)
    refine ⟨⟨m58, trivial⟩, ?_⟩
    obtain ⟨y59, h60, h⟩ := bnd_some h
    have h66 := h52
    refine mtc rfl rfl (dc_append el27 (by decide) h66 (h38.src fun _ h => h) rfl rfl h60 C.up.size C.sb fun v61 w62 h63 u64 h65 => ?_)
    have p67 := ap_grow p56 h65 (fun b hb => (h0.lt b hb).1)
    replace h0 := h0.wr u64 h66.not (ap_symm p56)
    replace C := C.ow h66 u64
    have z68 := (u64).size
    have m69 := m58.wrC u64 (by omega) (ap_one p56 h0.hd)
    refine ⟨⟨m69, trivial⟩, ?_⟩
    refine mtv rfl rfl (rv_nilcheck rfl h0.ptr) (mtv rfl rfl (rv_fieldAddr (b := pb v0) (o := 0) st29 rfl h0.ptr) ?_)
    replace h0 := h0.or (ap_symm p67)
    replace C := C.sealO h63
    replace h63 := h63.sealed
    obtain ⟨y70, h71, h⟩ := pur_some h
    have h76 : ∀ b, b ∈ fp0 → ¬ (Or S8 (Blk v61)) b := fun b hb => (h0.lt b hb).2
    refine mtc rfl rfl (dc_ofield (i := 0) (k := (kSl marigraphref08_Series.k)) (h1 := rfl) (a' := y59) h0 rfl ag27 rfl rfl (rep_sl.2 ⟨_, rfl, h63⟩) fun w72 h73 u74 => ?_)
    replace h73 : Ob 29 (marigraphref08_Index.fs ({ a0 with S := y59 } : marigraphref08_Index)) (Or S8 (Blk v61)) w72 v0 (cs0.set 0 v61) fp0 := h73
    rw [h71] at h73
    obtain ⟨cs77, h78⟩ : ∃ cs, cs = cs0.set 0 v61 := ⟨_, rfl⟩
    rw [← h78] at h73
    have c75 := Cx.ofUp C.sb u74
    replace C := C.ofc c75 hs0
    have z79 := (u74).size
    refine ⟨trivial, ?_⟩
    refine MT.e (k18 _ _ ?_)
    refine cw_seq fun K80 k81 => ?_
    refine cw_region (sv (asv (.int .i64 0) rfl) (W.e (k81 _ _ (cw_ret ?_))))
    obtain rfl := Option.some.inj h
    exact ⟨_, rfl, _, _, _, rfl, C, h73, hs0⟩

noncomputable def marigraphlaw08_some.b2 (a0 : List api_Ask) (x13 : Int) : Option ((Int) ⊕ ((Unit) ⊕ ((List api_Ask)))) :=
  (bif (decide (x13 < (a0.length : Int))) then (((at_ a0 x13).bind fun y27 => (pur y27 fun y37 => ((bif (decide ((12 : Int) ≤ x13)) then some true else (bif (decide ((100 : Int) < (y37.Name.size : Int))) then some true else some (decide ((100 : Int) < (y37.Val.size : Int))))).bind fun o43 => (bif o43 then ((upto_ a0 x13).bind fun y61 => some (.inr (.inr (.inr y61)))) else some (.inl ()))))).bind (Sum.elim (fun o21n => (pur (IntKind.i64.wrap (x13 + (1 : Int))) fun y70 => some (.inl y70))) (fun q => some q))) else some (.inr (.inl ())))
noncomputable def marigraphlaw08_some (a0 : List api_Ask) : Option (List api_Ask) :=
  ((iter (fun s : Int => marigraphlaw08_some.b2 a0 s) (0 : Int)).bind (Sum.elim (fun o3n => some a0) (fun q => some q)))
set_option maxRecDepth 100000 in
set_option maxHeartbeats 4000000 in
theorem marigraphlaw08_some_w {S : Nat → Prop} {w : World} {a0 : List api_Ask} {v0 : Value} {r : (List api_Ask)} (hS : Sb S w) (h0 : Sl (kSl api_Ask.k) S w v0 a0) (h : marigraphlaw08_some a0 = some r) :
    Calls Tryz.prog 19 (List.toArray [v0]) w fun e w1 => ∃ S1 u0, e = .returned (u0) ∧ Cx No S w S1 w1 ∧ Sl (kSl api_Ask.k) S1 w1 u0 r := by
  refine enter Tryz.func19 rfl (by kernel_rfl) rfl ?_
  have C := Cx.refl (F := No) hS
  unfold marigraphlaw08_some at h
  refine cw_seq fun K1 k2 => ?_
  refine cw_region (sv (asv (.slice none 0 0) rfl) (W.e (k2 _ _ ?_)))
  obtain ⟨o3, h6, h⟩ := bnds_some h
  refine cw_seq' (fun ρ w1 => ∃ o3n, o3 = (.inl o3n) ∧ ∃ S1, Cx No S w S1 w1 ∧ Has ρ [(0, v0)] ∧ Sl (kSl api_Ask.k) S1 w1 v0 a0) ?_ ?_
  · refine cw_seq fun K7 k8 => ?_
    refine cw_region (sv (mvv v0 rfl) (sv (rv_lenS el32 h0 rfl) (sv (mvv (.int .i64 0) rfl) (W.e (k8 _ _ (cw_block ?_))))))
    refine cw_iter h6 (fun s ρ w1 => ∃ S1, Cx No S w S1 w1 ∧ Has ρ [(0, v0), (5, v0), (6, .int .i64 (a0.length : Int)), (7, .int .i64 s)] ∧ Sl (kSl api_Ask.k) S1 w1 v0 a0) ⟨_, C, ⟨rfl, rfl, rfl, rfl, trivial⟩, h0⟩ ?_
    rintro x13 q9 ρ w11 ⟨S10, C, h12, h0⟩ h15 h14
    refine h12.cw fun ρ => ?_
    clear h12
    replace h15 : marigraphlaw08_some.b2 a0 x13 = some q9 := h15
    unfold marigraphlaw08_some.b2 at h15
    refine cw_seq fun K16 k17 => ?_
    refine cw_region (sv (rv_lss rfl rfl) (W.e (k17 _ _ ?_)))
    refine cw_seq fun K18 k19 => ?_
    rcases bif_some h15 with ⟨b20, h15⟩ | ⟨b20, h15⟩
    · refine cw_t rfl b20 (cw_skip (k19 _ _ ?_))
      obtain ⟨o21, h24, h15⟩ := bnds_some h15
      refine cw_seq' (fun ρ w1 => ∃ o21n, o21 = (.inl o21n) ∧ ∃ S1, Cx No S w S1 w1 ∧ Has ρ [(0, v0), (5, v0), (6, .int .i64 (a0.length : Int)), (7, .int .i64 x13)] ∧ Sl (kSl api_Ask.k) S1 w1 v0 a0) ?_ ?_
      · refine cw_block ?_
        refine cw_seq fun K25 k26 => ?_
        refine cw_region (sv (mvv (.int .i64 x13) rfl) ?_)
        obtain ⟨y27, h28, h24⟩ := bnd_some h24
        refine sv (rv_index el32 h0 rfl rfl h28) ?_
        obtain ⟨v29, h30, h31⟩ := rw_loadA (P := Tryz.prog) el32 h0 h28
        obtain rfl := api_Ask.o.1 h30
        refine sr (h31 _ (Sm.refl _ _) rfl) ?_
        refine sc (dc_allocO (x0 := (api_Ask.mk (0 : Int) ByteArray.empty ByteArray.empty)) (base := w.heap.size) el32 zr53 (fun _ => api_Ask.r.2 rfl) C.up.size C.sb fun b32 w33 h34 h35 u36 => ?_)
        replace h0 := h0.nw u36
        replace C := C.new u36
        refine sv (asv (.int .i64 x13) rfl) ?_
        obtain ⟨y37, h38, h24⟩ := pur_some h24
        have h42 := h34
        refine sc (dc_storeO el32 h42 (show at_ [(api_Ask.mk (0 : Int) ByteArray.empty ByteArray.empty)] (0 : Int) = some (api_Ask.mk (0 : Int) ByteArray.empty ByteArray.empty) from rfl) rfl rfl (((api_Ask.o (x := y27)).2 rfl)) fun w39 h40 u41 => ?_)
        replace h40 : Ow api_Ask.k 53 S10 w.heap.size w39 (.slice (some ⟨b32, 0, none⟩) 1 1) [y27] := h40
        rw [h38] at h40
        replace h0 := h0.wr u41 h42.not
        replace C := C.ow h42 u41
        refine W.e (k26 _ _ ?_)
        obtain ⟨o43, h46, h24⟩ := bnd_some h24
        refine cw_seq' (fun ρ w1 => ∃ S1, Cx No S w S1 w1 ∧ Has ρ [(0, v0), (3, .int .i64 x13), (5, v0), (6, .int .i64 (a0.length : Int)), (7, .int .i64 x13), (25, .bool o43)] ∧ Sl (kSl api_Ask.k) S1 w1 v0 a0) ?_ ?_
        · refine cw_region (sv (mvv (.int .i64 x13) rfl) (sv (rv_geq rfl rfl) (sv (mvv (.bool (decide ((12 : Int) ≤ x13))) rfl) ?_)))
          rcases bif_some h46 with ⟨b47, h46⟩ | ⟨b47, h46⟩
          · refine W.n (gn rfl rfl rfl b47) (W.n (gn rfl rfl rfl b47) (W.n (gn rfl rfl rfl b47) (W.n (gn rfl rfl rfl b47) (sv (ptk (.bool true) rfl b47 rfl) (sv (mvv (.bool true) rfl) (W.n (gn rfl rfl rfl rfl) (W.n (gn rfl rfl rfl rfl) (W.n (gn rfl rfl rfl rfl) (W.n (gn rfl rfl rfl rfl) (sv (ptk (.bool true) rfl rfl rfl) (W.e ?_)))))))))))
            obtain rfl := Option.some.inj h46
            exact ⟨_, C, ⟨rfl, rfl, rfl, rfl, rfl, rfl, trivial⟩, h0⟩
          · refine W.v (gy rfl rfl rfl b47) (rv_fieldAddr st53 rfl rfl) ?_
            obtain ⟨cs48, h49, h50⟩ := Ow.cellsO h40 (show at_ [y37] (0 : Int) = some y37 from rfl)
            obtain rfl := api_Ask.r.1 h49
            refine W.r (gy rfl rfl rfl b47) (rw_el1 (off := 1) ag9 (h50 _ (Sm.refl _ _)) rfl rfl) (W.v (gy rfl rfl rfl b47) (rv_slen Tryz.underlying9 rfl) (W.v (gy rfl rfl rfl b47) (rv_gtr rfl rfl) (sv (pfk (.bool (decide ((100 : Int) < (y37.Name.size : Int)))) rfl b47 rfl) (sv (mvv (.bool (decide ((100 : Int) < (y37.Name.size : Int)))) rfl) ?_))))
            rcases bif_some h46 with ⟨b51, h46⟩ | ⟨b51, h46⟩
            · refine W.n (gn rfl rfl rfl b51) (W.n (gn rfl rfl rfl b51) (W.n (gn rfl rfl rfl b51) (W.n (gn rfl rfl rfl b51) (sv (ptk (.bool true) rfl b51 rfl) (W.e ?_)))))
              obtain rfl := Option.some.inj h46
              exact ⟨_, C, ⟨rfl, rfl, rfl, rfl, rfl, rfl, trivial⟩, h0⟩
            · refine W.v (gy rfl rfl rfl b51) (rv_fieldAddr st53 rfl rfl) ?_
              obtain ⟨cs52, h53, h54⟩ := Ow.cellsO h40 (show at_ [y37] (0 : Int) = some y37 from rfl)
              obtain rfl := api_Ask.r.1 h53
              refine W.r (gy rfl rfl rfl b51) (rw_el1 (off := 2) ag9 (h54 _ (Sm.refl _ _)) rfl rfl) (W.v (gy rfl rfl rfl b51) (rv_slen Tryz.underlying9 rfl) (W.v (gy rfl rfl rfl b51) (rv_gtr rfl rfl) (sv (pfk (.bool (decide ((100 : Int) < (y37.Val.size : Int)))) rfl b51 rfl) (W.e ?_))))
              obtain rfl := Option.some.inj h46
              exact ⟨_, C, ⟨rfl, rfl, rfl, rfl, rfl, rfl, trivial⟩, h0⟩
        · rintro ρ w56 ⟨S55, C, h57, h0⟩
          refine h57.cw fun ρ => ?_
          clear h57
          rcases bif_some h24 with ⟨b58, h24⟩ | ⟨b58, h24⟩
          · refine cw_t rfl b58 ?_
            refine cw_seq fun K59 k60 => ?_
            refine cw_region (sv (mvv v0 rfl) (sv (mvv (.int .i64 x13) rfl) ?_))
            obtain ⟨y61, h62, h24⟩ := bnd_some h24
            obtain ⟨v63, h64, h65⟩ := rv_uptoA (P := Tryz.prog) el32 h0 h62
            refine sv (h65 rfl rfl) (sv (asv v63 rfl) (W.e (k60 _ _ (cw_ret ?_))))
            obtain rfl := Option.some.inj h24
            replace h15 := h15.2 _ rfl
            obtain rfl := Option.some.inj h15
            have h66 := congrArg some h14
            obtain rfl := Option.some.inj h66
            replace h := h.2 _ rfl
            obtain rfl := Option.some.inj h
            exact ⟨_, rfl, _, _, rfl, C, h64⟩
          · refine cw_f rfl b58 (cw_skip ?_)
            obtain rfl := Option.some.inj h24
            exact ⟨_, rfl, ⟨_, C, ⟨rfl, rfl, rfl, rfl, trivial⟩, h0⟩⟩
      · rintro ρ w68 ⟨o21n, rfl, ⟨S67, C, h69, h0⟩⟩
        replace h15 := h15.1 _ rfl
        refine h69.cw fun ρ => ?_
        clear h69
        refine cw_region ?_
        obtain ⟨y70, h71, h15⟩ := pur_some h15
        refine sv (rv_add rfl rfl h71) (sv (mvv (.int .i64 y70) rfl) (W.e ?_))
        obtain rfl := Option.some.inj h15
        exact ⟨_, rfl, ⟨_, C, ⟨rfl, rfl, rfl, rfl, trivial⟩, h0⟩⟩
    · refine cw_f rfl b20 (cw_exit ?_)
      obtain rfl := Option.some.inj h15
      have h72 := congrArg some h14
      obtain rfl := Option.some.inj h72
      exact ⟨_, rfl, ⟨_, C, ⟨rfl, trivial⟩, h0⟩⟩
  · rintro ρ w74 ⟨o3n, rfl, ⟨S73, C, h75, h0⟩⟩
    replace h := h.1 _ rfl
    refine h75.cw fun ρ => ?_
    clear h75
    refine cw_seq fun K76 k77 => ?_
    refine cw_region (sv (mvv v0 rfl) (sv (asv v0 rfl) (W.e (k77 _ _ (cw_ret ?_)))))
    obtain rfl := Option.some.inj h
    exact ⟨_, rfl, _, _, rfl, C, h0⟩

noncomputable def marigraphref05_Name.b2 (a0 : ByteArray) (x13 : Int) : Option ((Int) ⊕ ((Unit) ⊕ (Bool))) :=
  (bif (decide (x13 < (a0.size : Int))) then ((((sat_ a0 x13).bind fun y29 => (bif (decide ((97 : Int) ≤ y29)) then ((sat_ a0 x13).bind fun y32 => some (decide (y32 ≤ (122 : Int)))) else some false)).bind fun o25 => (((sat_ a0 x13).bind fun y41 => (bif (decide ((48 : Int) ≤ y41)) then ((sat_ a0 x13).bind fun y44 => some (decide (y44 ≤ (57 : Int)))) else some false)).bind fun o37 => ((bif (!o25) then (bif (x13 == (0 : Int)) then some true else (bif (!o37) then ((sat_ a0 x13).bind fun y56 => some (y56 != (95 : Int))) else some false)) else some false).bind fun o49 => (bif o49 then some (.inr (.inr (.inr false))) else some (.inl ()))))).bind (Sum.elim (fun o21n => (pur (IntKind.i64.wrap (x13 + (1 : Int))) fun y68 => some (.inl y68))) (fun q => some q))) else some (.inr (.inl ())))
noncomputable def marigraphref05_Name (a0 : ByteArray) : Option Bool :=
  ((iter (fun s : Int => marigraphref05_Name.b2 a0 s) (0 : Int)).bind (Sum.elim (fun o3n => ((bif (decide ((1 : Int) ≤ (a0.size : Int))) then some (decide ((a0.size : Int) ≤ (16 : Int))) else some false).bind fun o74 => some o74)) (fun q => some q)))
set_option maxRecDepth 100000 in
set_option maxHeartbeats 4000000 in
theorem marigraphref05_Name_w {S : Nat → Prop} {w : World} {a0 : ByteArray} {r : Bool} (hS : Sb S w)  (h : marigraphref05_Name a0 = some r) :
    Calls Tryz.prog 82 (List.toArray [.string a0]) w fun e w1 => ∃ S1, e = .returned (.bool r) ∧ Cx No S w S1 w1 := by
  refine enter Tryz.func82 rfl (by kernel_rfl) rfl ?_
  have C := Cx.refl (F := No) hS
  unfold marigraphref05_Name at h
  refine cw_seq fun K1 k2 => ?_
  refine cw_region (sv (asv (.bool false) rfl) (W.e (k2 _ _ ?_)))
  obtain ⟨o3, h6, h⟩ := bnds_some h
  refine cw_seq' (fun ρ w1 => ∃ o3n, o3 = (.inl o3n) ∧ ∃ S1, Cx No S w S1 w1 ∧ Has ρ [(0, .string a0)]) ?_ ?_
  · refine cw_seq fun K7 k8 => ?_
    refine cw_region (sv (asv (.int .i64 0) rfl) (W.e (k8 _ _ (cw_block ?_))))
    refine cw_iter h6 (fun s ρ w1 => ∃ S1, Cx No S w S1 w1 ∧ Has ρ [(0, .string a0), (3, .int .i64 s)]) ⟨_, C, ⟨rfl, rfl, trivial⟩⟩ ?_
    rintro x13 q9 ρ w11 ⟨S10, C, h12⟩ h15 h14
    refine h12.cw fun ρ => ?_
    clear h12
    replace h15 : marigraphref05_Name.b2 a0 x13 = some q9 := h15
    unfold marigraphref05_Name.b2 at h15
    refine cw_seq fun K16 k17 => ?_
    refine cw_seq fun K18 k19 => ?_
    refine cw_region (sv (mvv (.int .i64 x13) rfl) (sv (mvv (.string a0) rfl) (sv (rv_slen Tryz.underlying9 rfl) (sv (rv_lss rfl rfl) (W.e (k19 _ _ ?_))))))
    rcases bif_some h15 with ⟨b20, h15⟩ | ⟨b20, h15⟩
    · refine cw_t rfl b20 (cw_skip (k17 _ _ ?_))
      obtain ⟨o21, h24, h15⟩ := bnds_some h15
      refine cw_seq' (fun ρ w1 => ∃ o21n, o21 = (.inl o21n) ∧ ∃ S1, Cx No S w S1 w1 ∧ Has ρ [(0, .string a0), (3, .int .i64 x13)]) ?_ ?_
      · refine cw_block ?_
        obtain ⟨o25, h28, h24⟩ := bnd_some h24
        refine cw_seq' (fun ρ w1 => ∃ S1, Cx No S w S1 w1 ∧ Has ρ [(0, .string a0), (3, .int .i64 x13), (4, .bool o25)]) ?_ ?_
        · refine cw_region (sv (mvv (.string a0) rfl) (sv (mvv (.int .i64 x13) rfl) ?_))
          obtain ⟨y29, h30, h28⟩ := bnd_some h28
          refine sv (rv_sindex Tryz.underlying9 rfl rfl h30) (sv (rv_geq rfl rfl) (sv (mvv (.bool (decide ((97 : Int) ≤ y29))) rfl) ?_))
          rcases bif_some h28 with ⟨b31, h28⟩ | ⟨b31, h28⟩
          · refine W.v (gy rfl rfl rfl b31) (mvv (.string a0) rfl) (W.v (gy rfl rfl rfl b31) (mvv (.int .i64 x13) rfl) ?_)
            obtain ⟨y32, h33, h28⟩ := bnd_some h28
            refine W.v (gy rfl rfl rfl b31) (rv_sindex Tryz.underlying9 rfl rfl h33) (W.v (gy rfl rfl rfl b31) (rv_leq rfl rfl) (sv (ptk (.bool (decide (y32 ≤ (122 : Int)))) rfl b31 rfl) (sv (asv (.bool (decide (y32 ≤ (122 : Int)))) rfl) (W.e ?_))))
            obtain rfl := Option.some.inj h28
            exact ⟨_, C, ⟨rfl, rfl, rfl, trivial⟩⟩
          · refine W.n (gn rfl rfl rfl b31) (W.n (gn rfl rfl rfl b31) (W.n (gn rfl rfl rfl b31) (W.n (gn rfl rfl rfl b31) (sv (pfk (.bool false) rfl b31 rfl) (sv (asv (.bool false) rfl) (W.e ?_))))))
            obtain rfl := Option.some.inj h28
            exact ⟨_, C, ⟨rfl, rfl, rfl, trivial⟩⟩
        · rintro ρ w35 ⟨S34, C, h36⟩
          refine h36.cw fun ρ => ?_
          clear h36
          obtain ⟨o37, h40, h24⟩ := bnd_some h24
          refine cw_seq' (fun ρ w1 => ∃ S1, Cx No S w S1 w1 ∧ Has ρ [(0, .string a0), (3, .int .i64 x13), (4, .bool o25), (5, .bool o37)]) ?_ ?_
          · refine cw_region (sv (mvv (.string a0) rfl) (sv (mvv (.int .i64 x13) rfl) ?_))
            obtain ⟨y41, h42, h40⟩ := bnd_some h40
            refine sv (rv_sindex Tryz.underlying9 rfl rfl h42) (sv (rv_geq rfl rfl) (sv (mvv (.bool (decide ((48 : Int) ≤ y41))) rfl) ?_))
            rcases bif_some h40 with ⟨b43, h40⟩ | ⟨b43, h40⟩
            · refine W.v (gy rfl rfl rfl b43) (mvv (.string a0) rfl) (W.v (gy rfl rfl rfl b43) (mvv (.int .i64 x13) rfl) ?_)
              obtain ⟨y44, h45, h40⟩ := bnd_some h40
              refine W.v (gy rfl rfl rfl b43) (rv_sindex Tryz.underlying9 rfl rfl h45) (W.v (gy rfl rfl rfl b43) (rv_leq rfl rfl) (sv (ptk (.bool (decide (y44 ≤ (57 : Int)))) rfl b43 rfl) (sv (asv (.bool (decide (y44 ≤ (57 : Int)))) rfl) (W.e ?_))))
              obtain rfl := Option.some.inj h40
              exact ⟨_, C, ⟨rfl, rfl, rfl, rfl, trivial⟩⟩
            · refine W.n (gn rfl rfl rfl b43) (W.n (gn rfl rfl rfl b43) (W.n (gn rfl rfl rfl b43) (W.n (gn rfl rfl rfl b43) (sv (pfk (.bool false) rfl b43 rfl) (sv (asv (.bool false) rfl) (W.e ?_))))))
              obtain rfl := Option.some.inj h40
              exact ⟨_, C, ⟨rfl, rfl, rfl, rfl, trivial⟩⟩
          · rintro ρ w47 ⟨S46, C, h48⟩
            refine h48.cw fun ρ => ?_
            clear h48
            obtain ⟨o49, h52, h24⟩ := bnd_some h24
            refine cw_seq' (fun ρ w1 => ∃ S1, Cx No S w S1 w1 ∧ Has ρ [(0, .string a0), (3, .int .i64 x13), (47, .bool o49)]) ?_ ?_
            · refine cw_region (sv (mvv (.bool o25) rfl) (sv (rv_not rfl) (sv (mvv (.bool (!o25)) rfl) ?_)))
              rcases bif_some h52 with ⟨b53, h52⟩ | ⟨b53, h52⟩
              · refine W.v (gy rfl rfl rfl b53) (mvv (.int .i64 x13) rfl) (W.v (gy rfl rfl rfl b53) (rv_eql rfl rfl) (W.v (gy rfl rfl rfl b53) (mvv (.bool (x13 == (0 : Int))) rfl) ?_))
                rcases bif_some h52 with ⟨b54, h52⟩ | ⟨b54, h52⟩
                · refine W.n (gn rfl rfl rfl b54) (W.n (gn rfl rfl rfl b54) (W.n (gn rfl rfl rfl b54) (W.n (gu rfl rfl rfl) (W.n (gu rfl rfl rfl) (W.n (gu rfl rfl rfl) (W.n (gu rfl rfl rfl) (W.n (gn rfl rfl rfl b54) (W.v (gy rfl rfl rfl b53) (ptk (.bool true) rfl b54 rfl) (sv (ptk (.bool true) rfl b53 rfl) (W.e ?_))))))))))
                  obtain rfl := Option.some.inj h52
                  exact ⟨_, C, ⟨rfl, rfl, rfl, trivial⟩⟩
                · refine W.v (gy rfl rfl rfl b54) (mvv (.bool o37) rfl) (W.v (gy rfl rfl rfl b54) (rv_not rfl) (W.v (gy rfl rfl rfl b54) (mvv (.bool (!o37)) rfl) ?_))
                  rcases bif_some h52 with ⟨b55, h52⟩ | ⟨b55, h52⟩
                  · refine W.v (gy rfl rfl rfl b55) (mvv (.string a0) rfl) (W.v (gy rfl rfl rfl b55) (mvv (.int .i64 x13) rfl) ?_)
                    obtain ⟨y56, h57, h52⟩ := bnd_some h52
                    refine W.v (gy rfl rfl rfl b55) (rv_sindex Tryz.underlying9 rfl rfl h57) (W.v (gy rfl rfl rfl b55) (rv_neq rfl rfl) (W.v (gy rfl rfl rfl b54) (ptk (.bool (y56 != (95 : Int))) rfl b55 rfl) (W.v (gy rfl rfl rfl b53) (pfk (.bool (y56 != (95 : Int))) rfl b54 rfl) (sv (ptk (.bool (y56 != (95 : Int))) rfl b53 rfl) (W.e ?_)))))
                    obtain rfl := Option.some.inj h52
                    exact ⟨_, C, ⟨rfl, rfl, rfl, trivial⟩⟩
                  · refine W.n (gn rfl rfl rfl b55) (W.n (gn rfl rfl rfl b55) (W.n (gn rfl rfl rfl b55) (W.n (gn rfl rfl rfl b55) (W.v (gy rfl rfl rfl b54) (pfk (.bool false) rfl b55 rfl) (W.v (gy rfl rfl rfl b53) (pfk (.bool false) rfl b54 rfl) (sv (ptk (.bool false) rfl b53 rfl) (W.e ?_)))))))
                    obtain rfl := Option.some.inj h52
                    exact ⟨_, C, ⟨rfl, rfl, rfl, trivial⟩⟩
              · refine W.n (gn rfl rfl rfl b53) (W.n (gn rfl rfl rfl b53) (W.n (gn rfl rfl rfl b53) (W.n (gu rfl rfl rfl) (W.n (gu rfl rfl rfl) (W.n (gu rfl rfl rfl) (W.n (gu rfl rfl rfl) (W.n (gu rfl rfl rfl) (W.n (gu rfl rfl rfl) (W.n (gu rfl rfl rfl) (W.n (gu rfl rfl rfl) (W.n (gn rfl rfl rfl b53) ?_)))))))))))
                refine sv (pfk (.bool false) rfl b53 rfl) (W.e ?_)
                obtain rfl := Option.some.inj h52
                exact ⟨_, C, ⟨rfl, rfl, rfl, trivial⟩⟩
            · rintro ρ w59 ⟨S58, C, h60⟩
              refine h60.cw fun ρ => ?_
              clear h60
              rcases bif_some h24 with ⟨b61, h24⟩ | ⟨b61, h24⟩
              · refine cw_t rfl b61 ?_
                refine cw_seq fun K62 k63 => ?_
                refine cw_region (sv (asv (.bool false) rfl) (W.e (k63 _ _ (cw_ret ?_))))
                obtain rfl := Option.some.inj h24
                replace h15 := h15.2 _ rfl
                obtain rfl := Option.some.inj h15
                have h64 := congrArg some h14
                obtain rfl := Option.some.inj h64
                replace h := h.2 _ rfl
                obtain rfl := Option.some.inj h
                exact ⟨_, rfl, _, rfl, C⟩
              · refine cw_f rfl b61 (cw_skip ?_)
                obtain rfl := Option.some.inj h24
                exact ⟨_, rfl, ⟨_, C, ⟨rfl, rfl, trivial⟩⟩⟩
      · rintro ρ w66 ⟨o21n, rfl, ⟨S65, C, h67⟩⟩
        replace h15 := h15.1 _ rfl
        refine h67.cw fun ρ => ?_
        clear h67
        refine cw_region (sv (mvv (.int .i64 x13) rfl) ?_)
        obtain ⟨y68, h69, h15⟩ := pur_some h15
        refine sv (rv_add rfl rfl h69) (sv (asv (.int .i64 y68) rfl) (W.e ?_))
        obtain rfl := Option.some.inj h15
        exact ⟨_, rfl, ⟨_, C, ⟨rfl, rfl, trivial⟩⟩⟩
    · refine cw_f rfl b20 (cw_exit ?_)
      obtain rfl := Option.some.inj h15
      have h70 := congrArg some h14
      obtain rfl := Option.some.inj h70
      exact ⟨_, rfl, ⟨_, C, ⟨rfl, trivial⟩⟩⟩
  · rintro ρ w72 ⟨o3n, rfl, ⟨S71, C, h73⟩⟩
    replace h := h.1 _ rfl
    refine h73.cw fun ρ => ?_
    clear h73
    obtain ⟨o74, h77, h⟩ := bnd_some h
    refine cw_seq' (fun ρ w1 => ∃ S1, Cx No S w S1 w1 ∧ Has ρ [(2, .bool o74)]) ?_ ?_
    · refine cw_region (sv (mvv (.string a0) rfl) (sv (rv_slen Tryz.underlying9 rfl) (sv (rv_geq rfl rfl) (sv (mvv (.bool (decide ((1 : Int) ≤ (a0.size : Int)))) rfl) ?_))))
      rcases bif_some h77 with ⟨b78, h77⟩ | ⟨b78, h77⟩
      · refine W.v (gy rfl rfl rfl b78) (mvv (.string a0) rfl) (W.v (gy rfl rfl rfl b78) (rv_slen Tryz.underlying9 rfl) (W.v (gy rfl rfl rfl b78) (rv_leq rfl rfl) (sv (ptk (.bool (decide ((a0.size : Int) ≤ (16 : Int)))) rfl b78 rfl) (sv (asv (.bool (decide ((a0.size : Int) ≤ (16 : Int)))) rfl) (W.e ?_)))))
        obtain rfl := Option.some.inj h77
        exact ⟨_, C, ⟨rfl, trivial⟩⟩
      · refine W.n (gn rfl rfl rfl b78) (W.n (gn rfl rfl rfl b78) (W.n (gn rfl rfl rfl b78) (sv (pfk (.bool false) rfl b78 rfl) (sv (asv (.bool false) rfl) (W.e ?_)))))
        obtain rfl := Option.some.inj h77
        exact ⟨_, C, ⟨rfl, trivial⟩⟩
    · rintro ρ w80 ⟨S79, C, h81⟩
      refine h81.cw fun ρ => ?_
      clear h81
      refine cw_ret ?_
      obtain rfl := Option.some.inj h
      exact ⟨_, rfl, _, rfl, C⟩

noncomputable def marigraphref07_Right.b2 (a0 : List api_Ask) (x13 : Int) : Option ((Int) ⊕ ((Unit) ⊕ (Bool))) :=
  (bif (decide (x13 < (a0.length : Int))) then (((at_ a0 x13).bind fun y27 => (pur y27 fun y37 => ((bif (decide (y37.Op < (1 : Int))) then some true else (bif (decide ((4 : Int) < y37.Op)) then some true else ((marigraphref05_Name y37.Name).bind fun y58 => (bif (!y58) then some true else (bif (decide ((64 : Int) < (y37.Val.size : Int))) then some true else (bif (y37.Op == (4 : Int)) then (bif (!strEq y37.Val ByteArray.empty) then some true else (bif (y37.Op == (1 : Int)) then some (strEq y37.Val ByteArray.empty) else some false)) else (bif (y37.Op == (1 : Int)) then some (strEq y37.Val ByteArray.empty) else some false))))))).bind fun o43 => (bif o43 then some (.inr (.inr (.inr false))) else some (.inl ()))))).bind (Sum.elim (fun o21n => (pur (IntKind.i64.wrap (x13 + (1 : Int))) fun y100 => some (.inl y100))) (fun q => some q))) else some (.inr (.inl ())))
noncomputable def marigraphref07_Right (a0 : List api_Ask) : Option Bool :=
  ((iter (fun s : Int => marigraphref07_Right.b2 a0 s) (0 : Int)).bind (Sum.elim (fun o3n => some (decide ((a0.length : Int) ≤ (8 : Int)))) (fun q => some q)))
set_option maxRecDepth 100000 in
set_option maxHeartbeats 4000000 in
theorem marigraphref07_Right_w {S : Nat → Prop} {w : World} {a0 : List api_Ask} {v0 : Value} {r : Bool} (hS : Sb S w) (h0 : Sl (kSl api_Ask.k) S w v0 a0) (h : marigraphref07_Right a0 = some r) :
    Calls Tryz.prog 55 (List.toArray [v0]) w fun e w1 => ∃ S1, e = .returned (.bool r) ∧ Cx No S w S1 w1 := by
  refine enter Tryz.func55 rfl (by kernel_rfl) rfl ?_
  have C := Cx.refl (F := No) hS
  unfold marigraphref07_Right at h
  refine cw_seq fun K1 k2 => ?_
  refine cw_region (sv (asv (.bool false) rfl) (W.e (k2 _ _ ?_)))
  obtain ⟨o3, h6, h⟩ := bnds_some h
  refine cw_seq' (fun ρ w1 => ∃ o3n, o3 = (.inl o3n) ∧ ∃ S1, Cx No S w S1 w1 ∧ Has ρ [(0, v0)] ∧ Sl (kSl api_Ask.k) S1 w1 v0 a0) ?_ ?_
  · refine cw_seq fun K7 k8 => ?_
    refine cw_region (sv (asv (.int .i64 0) rfl) (W.e (k8 _ _ (cw_block ?_))))
    refine cw_iter h6 (fun s ρ w1 => ∃ S1, Cx No S w S1 w1 ∧ Has ρ [(0, v0), (3, .int .i64 s)] ∧ Sl (kSl api_Ask.k) S1 w1 v0 a0) ⟨_, C, ⟨rfl, rfl, trivial⟩, h0⟩ ?_
    rintro x13 q9 ρ w11 ⟨S10, C, h12, h0⟩ h15 h14
    refine h12.cw fun ρ => ?_
    clear h12
    replace h15 : marigraphref07_Right.b2 a0 x13 = some q9 := h15
    unfold marigraphref07_Right.b2 at h15
    refine cw_seq fun K16 k17 => ?_
    refine cw_seq fun K18 k19 => ?_
    refine cw_region (sv (mvv (.int .i64 x13) rfl) (sv (mvv v0 rfl) (sv (rv_lenS el32 h0 rfl) (sv (rv_lss rfl rfl) (W.e (k19 _ _ ?_))))))
    rcases bif_some h15 with ⟨b20, h15⟩ | ⟨b20, h15⟩
    · refine cw_t rfl b20 (cw_skip (k17 _ _ ?_))
      obtain ⟨o21, h24, h15⟩ := bnds_some h15
      refine cw_seq' (fun ρ w1 => ∃ o21n, o21 = (.inl o21n) ∧ ∃ S1, Cx No S w S1 w1 ∧ Has ρ [(0, v0), (3, .int .i64 x13)] ∧ Sl (kSl api_Ask.k) S1 w1 v0 a0) ?_ ?_
      · refine cw_block ?_
        refine cw_seq fun K25 k26 => ?_
        refine cw_region (sv (mvv v0 rfl) (sv (mvv (.int .i64 x13) rfl) ?_))
        obtain ⟨y27, h28, h24⟩ := bnd_some h24
        refine sv (rv_index el32 h0 rfl rfl h28) ?_
        obtain ⟨v29, h30, h31⟩ := rw_loadA (P := Tryz.prog) el32 h0 h28
        obtain rfl := api_Ask.o.1 h30
        refine sr (h31 _ (Sm.refl _ _) rfl) ?_
        refine sc (dc_allocO (x0 := (api_Ask.mk (0 : Int) ByteArray.empty ByteArray.empty)) (base := w.heap.size) el32 zr53 (fun _ => api_Ask.r.2 rfl) C.up.size C.sb fun b32 w33 h34 h35 u36 => ?_)
        replace h0 := h0.nw u36
        replace C := C.new u36
        obtain ⟨y37, h38, h24⟩ := pur_some h24
        have h42 := h34
        refine sc (dc_storeO el32 h42 (show at_ [(api_Ask.mk (0 : Int) ByteArray.empty ByteArray.empty)] (0 : Int) = some (api_Ask.mk (0 : Int) ByteArray.empty ByteArray.empty) from rfl) rfl rfl (((api_Ask.o (x := y27)).2 rfl)) fun w39 h40 u41 => ?_)
        replace h40 : Ow api_Ask.k 53 S10 w.heap.size w39 (.slice (some ⟨b32, 0, none⟩) 1 1) [y27] := h40
        rw [h38] at h40
        replace h0 := h0.wr u41 h42.not
        replace C := C.ow h42 u41
        refine W.e (k26 _ _ ?_)
        obtain ⟨o43, h46, h24⟩ := bnd_some h24
        refine cw_seq' (fun ρ w1 => ∃ S1, Cx No S w S1 w1 ∧ Has ρ [(0, v0), (3, .int .i64 x13), (54, .bool o43)] ∧ Sl (kSl api_Ask.k) S1 w1 v0 a0) ?_ ?_
        · refine cw_region (sv (rv_fieldAddr st53 rfl rfl) ?_)
          obtain ⟨cs47, h48, h49⟩ := Ow.cellsO h40 (show at_ [y37] (0 : Int) = some y37 from rfl)
          obtain rfl := api_Ask.r.1 h48
          refine sr (rw_el1 (off := 0) ag5 (h49 _ (Sm.refl _ _)) rfl rfl) (sv (rv_lss rfl rfl) (sv (mvv (.bool (decide (y37.Op < (1 : Int)))) rfl) ?_))
          rcases bif_some h46 with ⟨b50, h46⟩ | ⟨b50, h46⟩
          · refine W.n (gn rfl rfl rfl b50) (W.n (gn rfl rfl rfl b50) (W.n (gn rfl rfl rfl b50) (sv (ptk (.bool true) rfl b50 rfl) (sv (mvv (.bool true) rfl) (W.n (gn rfl rfl rfl rfl) (W.n (gn rfl rfl rfl rfl) (W.n (gn rfl rfl rfl rfl) (W.n (gn rfl rfl rfl rfl) (sv (ptk (.bool true) rfl rfl rfl) (sv (mvv (.bool true) rfl) (W.n (gn rfl rfl rfl rfl) ?_)))))))))))
            refine W.n (gn rfl rfl rfl rfl) (W.n (gn rfl rfl rfl rfl) (W.n (gn rfl rfl rfl rfl) (sv (ptk (.bool true) rfl rfl rfl) (sv (mvv (.bool true) rfl) (W.n (gn rfl rfl rfl rfl) (W.n (gn rfl rfl rfl rfl) (W.n (gn rfl rfl rfl rfl) (W.n (gn rfl rfl rfl rfl) (W.n (gu rfl rfl rfl) (W.n (gu rfl rfl rfl) (W.n (gu rfl rfl rfl) ?_)))))))))))
            refine W.n (gn rfl rfl rfl rfl) (sv (ptk (.bool true) rfl rfl rfl) (sv (mvv (.bool true) rfl) (W.n (gn rfl rfl rfl rfl) (W.n (gn rfl rfl rfl rfl) (W.n (gn rfl rfl rfl rfl) (W.n (gn rfl rfl rfl rfl) (W.n (gu rfl rfl rfl) (W.n (gu rfl rfl rfl) (W.n (gu rfl rfl rfl) (W.n (gn rfl rfl rfl rfl) (sv (ptk (.bool true) rfl rfl rfl) ?_)))))))))))
            refine W.e ?_
            obtain rfl := Option.some.inj h46
            exact ⟨_, C, ⟨rfl, rfl, rfl, trivial⟩, h0⟩
          · refine W.v (gy rfl rfl rfl b50) (rv_fieldAddr st53 rfl rfl) ?_
            obtain ⟨cs51, h52, h53⟩ := Ow.cellsO h40 (show at_ [y37] (0 : Int) = some y37 from rfl)
            obtain rfl := api_Ask.r.1 h52
            refine W.r (gy rfl rfl rfl b50) (rw_el1 (off := 0) ag5 (h53 _ (Sm.refl _ _)) rfl rfl) (W.v (gy rfl rfl rfl b50) (rv_gtr rfl rfl) (sv (pfk (.bool (decide ((4 : Int) < y37.Op))) rfl b50 rfl) (sv (mvv (.bool (decide ((4 : Int) < y37.Op))) rfl) ?_)))
            rcases bif_some h46 with ⟨b54, h46⟩ | ⟨b54, h46⟩
            · refine W.n (gn rfl rfl rfl b54) (W.n (gn rfl rfl rfl b54) (W.n (gn rfl rfl rfl b54) (W.n (gn rfl rfl rfl b54) (sv (ptk (.bool true) rfl b54 rfl) (sv (mvv (.bool true) rfl) (W.n (gn rfl rfl rfl rfl) (W.n (gn rfl rfl rfl rfl) (W.n (gn rfl rfl rfl rfl) (W.n (gn rfl rfl rfl rfl) (sv (ptk (.bool true) rfl rfl rfl) (sv (mvv (.bool true) rfl) ?_)))))))))))
              refine W.n (gn rfl rfl rfl rfl) (W.n (gn rfl rfl rfl rfl) (W.n (gn rfl rfl rfl rfl) (W.n (gn rfl rfl rfl rfl) (W.n (gu rfl rfl rfl) (W.n (gu rfl rfl rfl) (W.n (gu rfl rfl rfl) (W.n (gn rfl rfl rfl rfl) (sv (ptk (.bool true) rfl rfl rfl) (sv (mvv (.bool true) rfl) (W.n (gn rfl rfl rfl rfl) (W.n (gn rfl rfl rfl rfl) ?_)))))))))))
              refine W.n (gn rfl rfl rfl rfl) (W.n (gn rfl rfl rfl rfl) (W.n (gu rfl rfl rfl) (W.n (gu rfl rfl rfl) (W.n (gu rfl rfl rfl) (W.n (gn rfl rfl rfl rfl) (sv (ptk (.bool true) rfl rfl rfl) (W.e ?_)))))))
              obtain rfl := Option.some.inj h46
              exact ⟨_, C, ⟨rfl, rfl, rfl, trivial⟩, h0⟩
            · refine W.v (gy rfl rfl rfl b54) (rv_fieldAddr st53 rfl rfl) ?_
              obtain ⟨cs55, h56, h57⟩ := Ow.cellsO h40 (show at_ [y37] (0 : Int) = some y37 from rfl)
              obtain rfl := api_Ask.r.1 h56
              refine W.r (gy rfl rfl rfl b54) (rw_el1 (off := 1) ag9 (h57 _ (Sm.refl _ _)) rfl rfl) ?_
              obtain ⟨y58, h59, h46⟩ := bnd_some h46
              refine W.c (gy rfl rfl rfl b54) (dc_call (vs := [.string y37.Name]) can82 rfl ?_)
              refine (marigraphref05_Name_w C.sb  h59).mono ?_
              rintro _ w60 ⟨S61, rfl, c62⟩
              refine ⟨_, rfl, ?_⟩
              replace h0 := h0.cx c62
              replace h40 := h40.cx c62
              replace C := C.trans c62
              refine W.v (gy rfl rfl rfl b54) (rv_not rfl) (sv (pfk (.bool (!y58)) rfl b54 rfl) (sv (mvv (.bool (!y58)) rfl) ?_))
              rcases bif_some h46 with ⟨b63, h46⟩ | ⟨b63, h46⟩
              · refine W.n (gn rfl rfl rfl b63) (W.n (gn rfl rfl rfl b63) (W.n (gn rfl rfl rfl b63) (W.n (gn rfl rfl rfl b63) (sv (ptk (.bool true) rfl b63 rfl) (sv (mvv (.bool true) rfl) (W.n (gn rfl rfl rfl rfl) (W.n (gn rfl rfl rfl rfl) (W.n (gn rfl rfl rfl rfl) (W.n (gn rfl rfl rfl rfl) (W.n (gu rfl rfl rfl) (W.n (gu rfl rfl rfl) ?_)))))))))))
                refine W.n (gu rfl rfl rfl) (W.n (gn rfl rfl rfl rfl) (sv (ptk (.bool true) rfl rfl rfl) (sv (mvv (.bool true) rfl) (W.n (gn rfl rfl rfl rfl) (W.n (gn rfl rfl rfl rfl) (W.n (gn rfl rfl rfl rfl) (W.n (gn rfl rfl rfl rfl) (W.n (gu rfl rfl rfl) (W.n (gu rfl rfl rfl) (W.n (gu rfl rfl rfl) (W.n (gn rfl rfl rfl rfl) ?_)))))))))))
                refine sv (ptk (.bool true) rfl rfl rfl) (W.e ?_)
                obtain rfl := Option.some.inj h46
                exact ⟨_, C, ⟨rfl, rfl, rfl, trivial⟩, h0⟩
              · refine W.v (gy rfl rfl rfl b63) (rv_fieldAddr st53 rfl rfl) ?_
                obtain ⟨cs64, h65, h66⟩ := Ow.cellsO h40 (show at_ [y37] (0 : Int) = some y37 from rfl)
                obtain rfl := api_Ask.r.1 h65
                refine W.r (gy rfl rfl rfl b63) (rw_el1 (off := 2) ag9 (h66 _ (Sm.refl _ _)) rfl rfl) (W.v (gy rfl rfl rfl b63) (rv_slen Tryz.underlying9 rfl) (W.v (gy rfl rfl rfl b63) (rv_gtr rfl rfl) (sv (pfk (.bool (decide ((64 : Int) < (y37.Val.size : Int)))) rfl b63 rfl) (sv (mvv (.bool (decide ((64 : Int) < (y37.Val.size : Int)))) rfl) ?_))))
                rcases bif_some h46 with ⟨b67, h46⟩ | ⟨b67, h46⟩
                · refine W.n (gn rfl rfl rfl b67) (W.n (gn rfl rfl rfl b67) (W.n (gn rfl rfl rfl b67) (W.n (gn rfl rfl rfl b67) (W.n (gu rfl rfl rfl) (W.n (gu rfl rfl rfl) (W.n (gu rfl rfl rfl) (W.n (gn rfl rfl rfl b67) (sv (ptk (.bool true) rfl b67 rfl) (sv (mvv (.bool true) rfl) (W.n (gn rfl rfl rfl rfl) (W.n (gn rfl rfl rfl rfl) ?_)))))))))))
                  refine W.n (gn rfl rfl rfl rfl) (W.n (gn rfl rfl rfl rfl) (W.n (gu rfl rfl rfl) (W.n (gu rfl rfl rfl) (W.n (gu rfl rfl rfl) (W.n (gn rfl rfl rfl rfl) (sv (ptk (.bool true) rfl rfl rfl) (W.e ?_)))))))
                  obtain rfl := Option.some.inj h46
                  exact ⟨_, C, ⟨rfl, rfl, rfl, trivial⟩, h0⟩
                · refine W.v (gy rfl rfl rfl b67) (rv_fieldAddr st53 rfl rfl) ?_
                  obtain ⟨cs68, h69, h70⟩ := Ow.cellsO h40 (show at_ [y37] (0 : Int) = some y37 from rfl)
                  obtain rfl := api_Ask.r.1 h69
                  refine W.r (gy rfl rfl rfl b67) (rw_el1 (off := 0) ag5 (h70 _ (Sm.refl _ _)) rfl rfl) (W.v (gy rfl rfl rfl b67) (rv_eql rfl rfl) (W.v (gy rfl rfl rfl b67) (mvv (.bool (y37.Op == (4 : Int))) rfl) ?_))
                  rcases bif_some h46 with ⟨b71, h46⟩ | ⟨b71, h46⟩
                  · refine W.v (gy rfl rfl rfl b71) (rv_fieldAddr st53 rfl rfl) ?_
                    obtain ⟨cs72, h73, h74⟩ := Ow.cellsO h40 (show at_ [y37] (0 : Int) = some y37 from rfl)
                    obtain rfl := api_Ask.r.1 h73
                    refine W.r (gy rfl rfl rfl b71) (rw_el1 (off := 2) ag9 (h74 _ (Sm.refl _ _)) rfl rfl) (W.v (gy rfl rfl rfl b71) (rv_sneq rfl rfl) (W.v (gy rfl rfl rfl b67) (ptk (.bool (!strEq y37.Val ByteArray.empty)) rfl b71 rfl) (sv (pfk (.bool (!strEq y37.Val ByteArray.empty)) rfl b67 rfl) (sv (mvv (.bool (!strEq y37.Val ByteArray.empty)) rfl) ?_))))
                    rcases bif_some h46 with ⟨b75, h46⟩ | ⟨b75, h46⟩
                    · refine W.n (gn rfl rfl rfl b75) (W.n (gn rfl rfl rfl b75) (W.n (gn rfl rfl rfl b75) (W.n (gn rfl rfl rfl b75) (W.n (gu rfl rfl rfl) (W.n (gu rfl rfl rfl) (W.n (gu rfl rfl rfl) (W.n (gn rfl rfl rfl b75) (sv (ptk (.bool true) rfl b75 rfl) (W.e ?_)))))))))
                      obtain rfl := Option.some.inj h46
                      exact ⟨_, C, ⟨rfl, rfl, rfl, trivial⟩, h0⟩
                    · refine W.v (gy rfl rfl rfl b75) (rv_fieldAddr st53 rfl rfl) ?_
                      obtain ⟨cs76, h77, h78⟩ := Ow.cellsO h40 (show at_ [y37] (0 : Int) = some y37 from rfl)
                      obtain rfl := api_Ask.r.1 h77
                      refine W.r (gy rfl rfl rfl b75) (rw_el1 (off := 0) ag5 (h78 _ (Sm.refl _ _)) rfl rfl) (W.v (gy rfl rfl rfl b75) (rv_eql rfl rfl) (W.v (gy rfl rfl rfl b75) (mvv (.bool (y37.Op == (1 : Int))) rfl) ?_))
                      rcases bif_some h46 with ⟨b79, h46⟩ | ⟨b79, h46⟩
                      · refine W.v (gy rfl rfl rfl b79) (rv_fieldAddr st53 rfl rfl) ?_
                        obtain ⟨cs80, h81, h82⟩ := Ow.cellsO h40 (show at_ [y37] (0 : Int) = some y37 from rfl)
                        obtain rfl := api_Ask.r.1 h81
                        refine W.r (gy rfl rfl rfl b79) (rw_el1 (off := 2) ag9 (h82 _ (Sm.refl _ _)) rfl rfl) (W.v (gy rfl rfl rfl b79) (rv_seql rfl rfl) (W.v (gy rfl rfl rfl b75) (ptk (.bool (strEq y37.Val ByteArray.empty)) rfl b79 rfl) (sv (pfk (.bool (strEq y37.Val ByteArray.empty)) rfl b75 rfl) (W.e ?_))))
                        obtain rfl := Option.some.inj h46
                        exact ⟨_, C, ⟨rfl, rfl, rfl, trivial⟩, h0⟩
                      · refine W.n (gn rfl rfl rfl b79) (W.n (gn rfl rfl rfl b79) (W.n (gn rfl rfl rfl b79) (W.v (gy rfl rfl rfl b75) (pfk (.bool false) rfl b79 rfl) (sv (pfk (.bool false) rfl b75 rfl) (W.e ?_)))))
                        obtain rfl := Option.some.inj h46
                        exact ⟨_, C, ⟨rfl, rfl, rfl, trivial⟩, h0⟩
                  · refine W.n (gn rfl rfl rfl b71) (W.n (gn rfl rfl rfl b71) (W.n (gn rfl rfl rfl b71) (W.v (gy rfl rfl rfl b67) (pfk (.bool false) rfl b71 rfl) (sv (pfk (.bool false) rfl b67 rfl) (sv (mvv (.bool false) rfl) (W.v (gy rfl rfl rfl rfl) (rv_fieldAddr st53 rfl rfl) ?_))))))
                    obtain ⟨cs83, h84, h85⟩ := Ow.cellsO h40 (show at_ [y37] (0 : Int) = some y37 from rfl)
                    obtain rfl := api_Ask.r.1 h84
                    refine W.r (gy rfl rfl rfl rfl) (rw_el1 (off := 0) ag5 (h85 _ (Sm.refl _ _)) rfl rfl) (W.v (gy rfl rfl rfl rfl) (rv_eql rfl rfl) (W.v (gy rfl rfl rfl rfl) (mvv (.bool (y37.Op == (1 : Int))) rfl) ?_))
                    rcases bif_some h46 with ⟨b86, h46⟩ | ⟨b86, h46⟩
                    · refine W.v (gy rfl rfl rfl b86) (rv_fieldAddr st53 rfl rfl) ?_
                      obtain ⟨cs87, h88, h89⟩ := Ow.cellsO h40 (show at_ [y37] (0 : Int) = some y37 from rfl)
                      obtain rfl := api_Ask.r.1 h88
                      refine W.r (gy rfl rfl rfl b86) (rw_el1 (off := 2) ag9 (h89 _ (Sm.refl _ _)) rfl rfl) (W.v (gy rfl rfl rfl b86) (rv_seql rfl rfl) (W.v (gy rfl rfl rfl rfl) (ptk (.bool (strEq y37.Val ByteArray.empty)) rfl b86 rfl) (sv (pfk (.bool (strEq y37.Val ByteArray.empty)) rfl rfl rfl) (W.e ?_))))
                      obtain rfl := Option.some.inj h46
                      exact ⟨_, C, ⟨rfl, rfl, rfl, trivial⟩, h0⟩
                    · refine W.n (gn rfl rfl rfl b86) (W.n (gn rfl rfl rfl b86) (W.n (gn rfl rfl rfl b86) (W.v (gy rfl rfl rfl rfl) (pfk (.bool false) rfl b86 rfl) (sv (pfk (.bool false) rfl rfl rfl) (W.e ?_)))))
                      obtain rfl := Option.some.inj h46
                      exact ⟨_, C, ⟨rfl, rfl, rfl, trivial⟩, h0⟩
        · rintro ρ w91 ⟨S90, C, h92, h0⟩
          refine h92.cw fun ρ => ?_
          clear h92
          rcases bif_some h24 with ⟨b93, h24⟩ | ⟨b93, h24⟩
          · refine cw_t rfl b93 ?_
            refine cw_seq fun K94 k95 => ?_
            refine cw_region (sv (asv (.bool false) rfl) (W.e (k95 _ _ (cw_ret ?_))))
            obtain rfl := Option.some.inj h24
            replace h15 := h15.2 _ rfl
            obtain rfl := Option.some.inj h15
            have h96 := congrArg some h14
            obtain rfl := Option.some.inj h96
            replace h := h.2 _ rfl
            obtain rfl := Option.some.inj h
            exact ⟨_, rfl, _, rfl, C⟩
          · refine cw_f rfl b93 (cw_skip ?_)
            obtain rfl := Option.some.inj h24
            exact ⟨_, rfl, ⟨_, C, ⟨rfl, rfl, trivial⟩, h0⟩⟩
      · rintro ρ w98 ⟨o21n, rfl, ⟨S97, C, h99, h0⟩⟩
        replace h15 := h15.1 _ rfl
        refine h99.cw fun ρ => ?_
        clear h99
        refine cw_region (sv (mvv (.int .i64 x13) rfl) ?_)
        obtain ⟨y100, h101, h15⟩ := pur_some h15
        refine sv (rv_add rfl rfl h101) (sv (asv (.int .i64 y100) rfl) (W.e ?_))
        obtain rfl := Option.some.inj h15
        exact ⟨_, rfl, ⟨_, C, ⟨rfl, rfl, trivial⟩, h0⟩⟩
    · refine cw_f rfl b20 (cw_exit ?_)
      obtain rfl := Option.some.inj h15
      have h102 := congrArg some h14
      obtain rfl := Option.some.inj h102
      exact ⟨_, rfl, ⟨_, C, ⟨rfl, trivial⟩, h0⟩⟩
  · rintro ρ w104 ⟨o3n, rfl, ⟨S103, C, h105, h0⟩⟩
    replace h := h.1 _ rfl
    refine h105.cw fun ρ => ?_
    clear h105
    refine cw_seq fun K106 k107 => ?_
    refine cw_region (sv (mvv v0 rfl) (sv (rv_lenS el32 h0 rfl) (sv (rv_leq rfl rfl) (sv (asv (.bool (decide ((a0.length : Int) ≤ (8 : Int)))) rfl) (W.e (k107 _ _ (cw_ret ?_)))))))
    obtain rfl := Option.some.inj h
    exact ⟨_, rfl, _, rfl, C⟩

noncomputable def marigraphref05_Get.b2 (a0 : List api_Label) (a1 : ByteArray) (x13 : Int) : Option ((Int) ⊕ ((Unit) ⊕ (ByteArray × Bool))) :=
  (bif (decide (x13 < (a0.length : Int))) then ((at_ a0 x13).bind fun y25 => (bif (strEq y25.Name a1) then ((at_ a0 x13).bind fun y33 => some (.inr (.inr (y33.Val, true)))) else (pur (IntKind.i64.wrap (x13 + (1 : Int))) fun y39 => some (.inl y39)))) else some (.inr (.inl ())))
noncomputable def marigraphref05_Get (a0 : List api_Label) (a1 : ByteArray) : Option (ByteArray × Bool) :=
  ((iter (fun s : Int => marigraphref05_Get.b2 a0 a1 s) (0 : Int)).bind (Sum.elim (fun o3n => some (ByteArray.empty, false)) (fun q => some q)))
set_option maxRecDepth 100000 in
set_option maxHeartbeats 4000000 in
theorem marigraphref05_Get_w {S : Nat → Prop} {w : World} {a0 : List api_Label} {a1 : ByteArray} {v0 : Value} {r : ByteArray × Bool} (hS : Sb S w) (h0 : Sl (kSl api_Label.k) S w v0 a0) (h : marigraphref05_Get a0 a1 = some r) :
    Calls Tryz.prog 60 (List.toArray [v0, .string a1]) w fun e w1 => ∃ S1, e = .returned (.tuple (List.toArray [.string r.1, .bool r.2])) ∧ Cx No S w S1 w1 := by
  refine enter Tryz.func60 rfl (by kernel_rfl) rfl ?_
  have C := Cx.refl (F := No) hS
  unfold marigraphref05_Get at h
  refine cw_seq fun K1 k2 => ?_
  refine cw_region (sv (asv (.string ByteArray.empty) rfl) (sv (asv (.bool false) rfl) (W.e (k2 _ _ ?_))))
  obtain ⟨o3, h6, h⟩ := bnds_some h
  refine cw_seq' (fun ρ w1 => ∃ o3n, o3 = (.inl o3n) ∧ ∃ S1, Cx No S w S1 w1 ∧ Has ρ []) ?_ ?_
  · refine cw_seq fun K7 k8 => ?_
    refine cw_region (sv (asv (.int .i64 0) rfl) (W.e (k8 _ _ (cw_block ?_))))
    refine cw_iter h6 (fun s ρ w1 => ∃ S1, Cx No S w S1 w1 ∧ Has ρ [(0, v0), (1, .string a1), (6, .int .i64 s)] ∧ Sl (kSl api_Label.k) S1 w1 v0 a0) ⟨_, C, ⟨rfl, rfl, rfl, trivial⟩, h0⟩ ?_
    rintro x13 q9 ρ w11 ⟨S10, C, h12, h0⟩ h15 h14
    refine h12.cw fun ρ => ?_
    clear h12
    replace h15 : marigraphref05_Get.b2 a0 a1 x13 = some q9 := h15
    unfold marigraphref05_Get.b2 at h15
    refine cw_seq fun K16 k17 => ?_
    refine cw_seq fun K18 k19 => ?_
    refine cw_region (sv (mvv (.int .i64 x13) rfl) (sv (mvv v0 rfl) (sv (rv_lenS el31 h0 rfl) (sv (rv_lss rfl rfl) (W.e (k19 _ _ ?_))))))
    rcases bif_some h15 with ⟨b20, h15⟩ | ⟨b20, h15⟩
    · refine cw_t rfl b20 (cw_skip (k17 _ _ ?_))
      refine cw_seq fun K21 k22 => ?_
      refine cw_block ?_
      refine cw_seq fun K23 k24 => ?_
      refine cw_region (sv (mvv v0 rfl) (sv (mvv (.int .i64 x13) rfl) ?_))
      obtain ⟨y25, h26, h15⟩ := bnd_some h15
      refine sv (rv_index el31 h0 rfl rfl h26) (sv (rv_fieldAddr st46 rfl rfl) ?_)
      obtain ⟨cs27, h28, h29⟩ := Sl.cells h0 h26
      obtain rfl := api_Label.r.1 h28
      refine sr (rw_el1 (off := 0) ag9 (h29 _ (Sm.refl _ _)) rfl rfl) (sv (mvv (.string a1) rfl) (sv (rv_seql rfl rfl) (W.e (k24 _ _ ?_))))
      rcases bif_some h15 with ⟨b30, h15⟩ | ⟨b30, h15⟩
      · refine cw_t rfl b30 ?_
        refine cw_seq fun K31 k32 => ?_
        refine cw_region (sv (mvv v0 rfl) (sv (mvv (.int .i64 x13) rfl) ?_))
        obtain ⟨y33, h34, h15⟩ := bnd_some h15
        refine sv (rv_index el31 h0 rfl rfl h34) (sv (rv_fieldAddr st46 rfl rfl) ?_)
        obtain ⟨cs35, h36, h37⟩ := Sl.cells h0 h34
        obtain rfl := api_Label.r.1 h36
        refine sr (rw_el1 (off := 1) ag9 (h37 _ (Sm.refl _ _)) rfl rfl) (sv (asv (.string y33.Val) rfl) (sv (asv (.bool true) rfl) (W.e (k32 _ _ (cw_ret ?_)))))
        obtain rfl := Option.some.inj h15
        have h38 := congrArg some h14
        obtain rfl := Option.some.inj h38
        replace h := h.2 _ rfl
        obtain rfl := Option.some.inj h
        exact ⟨_, rfl, _, rfl, C⟩
      · refine cw_f rfl b30 (cw_skip (k22 _ _ (cw_region (sv (mvv (.int .i64 x13) rfl) ?_))))
        obtain ⟨y39, h40, h15⟩ := pur_some h15
        refine sv (rv_add rfl rfl h40) (sv (asv (.int .i64 y39) rfl) (W.e ?_))
        obtain rfl := Option.some.inj h15
        exact ⟨_, rfl, ⟨_, C, ⟨rfl, rfl, rfl, trivial⟩, h0⟩⟩
    · refine cw_f rfl b20 (cw_exit ?_)
      obtain rfl := Option.some.inj h15
      have h41 := congrArg some h14
      obtain rfl := Option.some.inj h41
      exact ⟨_, rfl, ⟨_, C, trivial⟩⟩
  · rintro ρ w43 ⟨o3n, rfl, ⟨S42, C, h44⟩⟩
    replace h := h.1 _ rfl
    refine h44.cw fun ρ => ?_
    clear h44
    refine cw_seq fun K45 k46 => ?_
    refine cw_region (sv (asv (.string ByteArray.empty) rfl) (sv (asv (.bool false) rfl) (W.e (k46 _ _ (cw_ret ?_)))))
    obtain rfl := Option.some.inj h
    exact ⟨_, rfl, _, rfl, C⟩

end Go.Proofs.YtikdgllagijidaaGreat
