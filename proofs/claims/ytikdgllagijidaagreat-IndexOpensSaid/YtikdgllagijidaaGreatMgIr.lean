/- Labels out of any bytes: ours and the document's are alike. -/
import Derived.Test.YtikdgllagijidaaGreatMgIq
import Derived.Test.YtikdgllagijidaaGreatMgIlt
namespace Go.Proofs.YtikdgllagijidaaGreat
open Go Go.Mg
set_option linter.unusedVariables false
set_option linter.unusedSimpArgs false

theorem Byt.drop {b : List Int} (h : Byt b) (n : Nat) : Byt (b.drop n) := fun x hx => h x (List.mem_of_mem_drop hx)
theorem Byt.take {b : List Int} (h : Byt b) (n : Nat) : Byt (b.take n) := fun x hx => h x (List.mem_of_mem_take hx)
theorem Byt.right {a b : List Int} (h : Byt (a ++ b)) : Byt b := fun x hx => h x (by simp [hx])
theorem numS_byt {b s : List Int} {n : Nat} (hb : Byt b) (h : numS b = some (n, s)) : Byt s ∧ s.length < b.length := by
  obtain ⟨e, hn⟩ := numS_form hb h
  rw [e] at hb
  have := vint_len hn
  refine ⟨hb.right, ?_⟩
  rw [e, List.length_append]; omega

/-- A text out of bytes. -/
def tx (st : List Int × Bool) : ByteArray × List Int × Bool :=
  match numS st.1 with
  | none => (ByteArray.empty, [], true)
  | some (n, s) => if n ≤ s.length then (strOf (s.take n), s.drop n, st.2) else (ByteArray.empty, [], true)
theorem tx_byt {st : List Int × Bool} (hb : Byt st.1) : Byt (tx st).2.1 ∧ (tx st).2.1.length ≤ st.1.length := by
  unfold tx
  cases h : numS st.1 with
  | none => exact ⟨(fun x hx => by cases hx), by simp⟩
  | some q =>
    obtain ⟨n, s⟩ := q
    obtain ⟨h1, h2⟩ := numS_byt hb h
    dsimp only
    by_cases hn : n ≤ s.length
    · rw [if_pos hn]; exact ⟨h1.drop n, by simp; omega⟩
    · rw [if_neg hn]; exact ⟨(fun x hx => by cases hx), by simp⟩
theorem strOf_nil : strOf [] = ByteArray.empty := rfl
theorem octs_text {b : List Int} {bad : Bool} (hb : Byt b) (hl : b.length < 10000000) : octs_Taker_Text (some ⟨b, bad⟩) = some ((tx (b, bad)).1, some ⟨(tx (b, bad)).2.1, (tx (b, bad)).2.2⟩) := by
  unfold octs_Taker_Text tx
  rw [octs_num hb hl, Option.bind_some]
  cases h : numS b with
  | none => rfl
  | some q =>
    obtain ⟨n, s⟩ := q
    obtain ⟨h1, h2⟩ := numS_byt hb h
    obtain ⟨_, hn64⟩ := numS_form hb h
    simp only [Option.isNone_some, cond_false, Option.bind_some, pur_eq]
    rw [wu64 (by omega)]
    by_cases hn : n ≤ s.length
    · rw [decide_eq_false (by omega), cond_false, upto_nat hn, Option.bind_some, from_nat hn, Option.bind_some, if_pos hn]
    · rw [decide_eq_true (by omega), cond_true, if_neg hn]; rfl
theorem ref_text {b : List Int} {bad : Bool} (hb : Byt b) (hl : b.length < 10000000) : marigraphref01_Taker_Text ⟨b, bad⟩ = some ((tx (b, bad)).1, ⟨(tx (b, bad)).2.1, (tx (b, bad)).2.2⟩) := by
  unfold marigraphref01_Taker_Text tx
  rw [ref_num hb hl, Option.bind_some]
  cases h : numS b with
  | none => rfl
  | some q =>
    obtain ⟨n, s⟩ := q
    obtain ⟨h1, h2⟩ := numS_byt hb h
    obtain ⟨_, hn64⟩ := numS_form hb h
    simp only [pur_eq]
    rw [wu64 (by omega)]
    by_cases hn : n ≤ s.length
    · rw [decide_eq_false (by omega), cond_false, upto_nat hn, Option.bind_some, from_nat hn, Option.bind_some, if_pos hn]
    · rw [decide_eq_true (by omega), cond_true, if_neg hn]; rfl
theorem tx_enc {t : ByteArray} {s : List Int} {bad : Bool} (ht : t.size < 1000) : tx (encT t ++ s, bad) = (t, s, bad) := by
  unfold tx encT
  rw [List.append_assoc, numS_vint _ (by omega)]
  have hl := strB_length t
  dsimp only
  rw [if_pos (by simp; omega), List.take_append_of_le_length (by omega), List.take_of_length_le (by omega), List.drop_append_of_le_length (by omega), List.drop_eq_nil_of_le (by omega), strOf_strB]
  rfl
theorem tx_form {b : List Int} {bad : Bool} (hb : Byt b) (h : 1 ≤ (tx (b, bad)).1.size) : b = encT (tx (b, bad)).1 ++ (tx (b, bad)).2.1 ∧ (tx (b, bad)).2.2 = bad := by
  unfold tx at h ⊢
  cases hq : numS b with
  | none => rw [hq] at h; simp at h
  | some q =>
    obtain ⟨n, s⟩ := q
    rw [hq] at h
    dsimp only at h ⊢
    by_cases hn : n ≤ s.length
    · rw [if_pos hn]
      obtain ⟨e, hn64⟩ := numS_form hb hq
      obtain ⟨h1, h2⟩ := numS_byt hb hq
      refine ⟨?_, rfl⟩
      have hsz : (strOf (s.take n)).size = n := by
        have := strB_length (strOf (s.take n))
        rw [strB_of (h1.take n), List.length_take] at this
        omega
      unfold encT
      rw [hsz, strB_of (h1.take n), List.append_assoc, List.take_append_drop]
      exact e
    · rw [if_neg hn] at h; simp at h

/-- So many labels out of bytes. -/
def labs : Nat → List Int × Bool → List api_Label × List Int × Bool
  | 0, st => ([], st)
  | k + 1, st => (⟨(tx st).1, (tx (tx st).2).1⟩ :: (labs k (tx (tx st).2).2).1, (labs k (tx (tx st).2).2).2)
theorem labs_byt : ∀ (k : Nat) {st : List Int × Bool}, Byt st.1 → Byt (labs k st).2.1 ∧ (labs k st).2.1.length ≤ st.1.length
  | 0, st, h => ⟨h, Nat.le_refl _⟩
  | k + 1, st, h => by
    have h1 := tx_byt h
    have h2 := tx_byt (st := (tx st).2) h1.1
    have h3 := labs_byt k (st := (tx (tx st).2).2) h2.1
    unfold labs
    exact ⟨h3.1, by dsimp only; omega⟩
theorem labs_len : ∀ (k : Nat) (st : List Int × Bool), (labs k st).1.length = k
  | 0, _ => rfl
  | k + 1, st => by unfold labs; simp [labs_len k]
theorem labs_enc : ∀ (l : List api_Label) (s : List Int) (bad : Bool), (∀ x ∈ l, okL x = true) → labs l.length (l.flatMap encX ++ s, bad) = (l, s, bad)
  | [], s, bad, _ => rfl
  | x :: l, s, bad, h => by
    have hx := okL_size (h x (by simp))
    rw [List.length_cons, List.flatMap_cons, show encX x = encT x.Name ++ encT x.Val from rfl, List.append_assoc, List.append_assoc]
    unfold labs
    rw [tx_enc (by omega)]
    dsimp only
    rw [tx_enc (by omega)]
    dsimp only
    rw [labs_enc l s bad fun y hy => h y (by simp [hy])]
theorem labs_form : ∀ (k : Nat) {b : List Int} {bad : Bool}, Byt b → (∀ x ∈ (labs k (b, bad)).1, okL x = true) → b = (labs k (b, bad)).1.flatMap encX ++ (labs k (b, bad)).2.1 ∧ (labs k (b, bad)).2.2 = bad
  | 0, b, bad, _, _ => ⟨rfl, rfl⟩
  | k + 1, b, bad, hb, h => by
    unfold labs at h ⊢
    dsimp only at h ⊢
    have h1 := okL_size (h _ List.mem_cons_self)
    dsimp only at h1
    obtain ⟨e1, f1⟩ := tx_form hb (by omega : 1 ≤ (tx (b, bad)).1.size)
    have b1 := (tx_byt (st := (b, bad)) hb).1
    obtain ⟨e2, f2⟩ := tx_form (b := (tx (b, bad)).2.1) (bad := (tx (b, bad)).2.2) b1 (by have := h1.2.1; exact this)
    have b2 := (tx_byt (st := (tx (b, bad)).2) b1).1
    obtain ⟨e3, f3⟩ := labs_form k (b := (tx (tx (b, bad)).2).2.1) (bad := (tx (tx (b, bad)).2).2.2) b2 fun x hx => h x (List.mem_cons_of_mem _ hx)
    refine ⟨?_, ?_⟩
    · rw [List.flatMap_cons, show ∀ n v, encX ⟨n, v⟩ = encT n ++ encT v from fun _ _ => rfl, List.append_assoc, List.append_assoc]
      exact e1.trans (congrArg _ (e2.trans (congrArg _ e3)))
    · exact f3.trans (f2.trans f1)

/-! ### Take -/
theorem octs_labs (n : Nat) (t0 : Option octs_Taker) (hn : n ≤ 1000) : ∀ (k i : Nat) (out : List api_Label) (b : List Int) (bad : Bool), i + k = n → out.length = i → Byt b → b.length < 1000000 →
    iter (fun s : (List api_Label) × Int × (Option octs_Taker) => label_Take.b2 ((n : Int), t0) s.1 s.2.1 s.2.2) (out, (i : Int), some ⟨b, bad⟩) = some (out ++ (labs k (b, bad)).1, some ⟨(labs k (b, bad)).2.1, (labs k (b, bad)).2.2⟩) := by
  intro k
  induction k with
  | zero =>
    intro i out b bad h1 h2 hb hl
    refine iter_end ?_
    unfold label_Take.b2 labs
    dsimp only
    rw [decide_eq_false (by omega), cond_false, List.append_nil]
  | succ k ih =>
    intro i out b bad h1 h2 hb hl
    have t1 := tx_byt (st := (b, bad)) hb
    have t2 := tx_byt (st := (tx (b, bad)).2) t1.1
    have hs : label_Take.b2 ((n : Int), t0) out (i : Int) (some ⟨b, bad⟩) = some (.inl (out ++ [⟨(tx (b, bad)).1, (tx (tx (b, bad)).2).1⟩], ((i + 1 : Nat) : Int), some ⟨(tx (tx (b, bad)).2).2.1, (tx (tx (b, bad)).2).2.2⟩)) := by
      unfold label_Take.b2
      dsimp only
      rw [decide_eq_true (by omega), cond_true, octs_text hb (by omega), Option.bind_some]
      dsimp only
      rw [octs_text t1.1 (by have := t1.2; dsimp only at this; omega), Option.bind_some, app_ok (by rw [limv]; simp; omega), Option.bind_some, pur_eq, wrapu64 (by omega) (by omega)]
      rfl
    rw [iter_next hs, ih (i + 1) _ _ _ (by omega) (by simp [h2]) t2.1 (by have h3 := t1.2; have h4 := t2.2; dsimp only at h3 h4; omega)]
    rw [show labs (k + 1) (b, bad) = (⟨(tx (b, bad)).1, (tx (tx (b, bad)).2).1⟩ :: (labs k (tx (tx (b, bad)).2).2).1, (labs k (tx (tx (b, bad)).2).2).2) from rfl, List.append_assoc]
    rfl
theorem ref_labs (m n : Nat) (t0 : marigraphref01_Taker) (hm : n = min 7 m) (hm64 : m < 2 ^ 64) : ∀ (k i : Nat) (out : List api_Label) (b : List Int) (bad : Bool), i + k = n → out.length = i → Byt b → b.length < 1000000 →
    iter (fun s : (List api_Label) × Int × marigraphref01_Taker => marigraphref05_Take.b2 ((m : Int), t0) s.1 s.2.1 s.2.2) (out, (i : Int), ⟨b, bad⟩) = some (out ++ (labs k (b, bad)).1, ⟨(labs k (b, bad)).2.1, (labs k (b, bad)).2.2⟩) := by
  have hmin : IntKind.i64.wrap (if (7 : Int) < (m : Int) then (7 : Int) else (m : Int)) = (n : Int) := by
    by_cases h : 7 < m
    · rw [if_pos (by omega), wrap64 (by omega) (by omega)]; omega
    · rw [if_neg (by omega), wrap64 (by omega) (by omega)]; omega
  intro k
  induction k with
  | zero =>
    intro i out b bad h1 h2 hb hl
    refine iter_end ?_
    unfold marigraphref05_Take.b2 labs
    dsimp only
    rw [pur_eq, pur_eq, hmin, decide_eq_false (by omega), cond_false, List.append_nil]
  | succ k ih =>
    intro i out b bad h1 h2 hb hl
    have t1 := tx_byt (st := (b, bad)) hb
    have t2 := tx_byt (st := (tx (b, bad)).2) t1.1
    have hs : marigraphref05_Take.b2 ((m : Int), t0) out (i : Int) ⟨b, bad⟩ = some (.inl (out ++ [⟨(tx (b, bad)).1, (tx (tx (b, bad)).2).1⟩], ((i + 1 : Nat) : Int), ⟨(tx (tx (b, bad)).2).2.1, (tx (tx (b, bad)).2).2.2⟩)) := by
      unfold marigraphref05_Take.b2
      dsimp only
      rw [pur_eq, pur_eq, hmin, decide_eq_true (by omega), cond_true, ref_text hb (by omega), Option.bind_some, pur_eq]
      dsimp only
      rw [ref_text t1.1 (by have := t1.2; dsimp only at this; omega), Option.bind_some, pur_eq, app_ok (by rw [limv]; simp; omega), Option.bind_some, pur_eq, wrap64 (by omega) (by omega)]
      rfl
    rw [iter_next hs, ih (i + 1) _ _ _ (by omega) (by simp [h2]) t2.1 (by have h3 := t1.2; have h4 := t2.2; dsimp only at h3 h4; omega)]
    rw [show labs (k + 1) (b, bad) = (⟨(tx (b, bad)).1, (tx (tx (b, bad)).2).1⟩ :: (labs k (tx (tx (b, bad)).2).2).1, (labs k (tx (tx (b, bad)).2).2).2) from rfl, List.append_assoc]
    rfl

/-- The labels that bytes begin with, and the bytes behind; both sides. -/
theorem take_both {b : List Int} (hb : Byt b) (hl : b.length < 100000) :
    (∃ l s, rightS l = true ∧ b = encL l ++ s ∧ label_Take b = some (l, s, 0) ∧ marigraphref05_Take b = some (l, s, 0)) ∨
    (label_Take b = some ([], [], 6) ∧ ∃ s, marigraphref05_Take b = some ([], s, 6)) := by
  by_cases hf : ∃ l s, rightS l = true ∧ b = encL l ++ s
  · obtain ⟨l, s, hr, e⟩ := hf
    left
    obtain ⟨r1, r2, r3, r4⟩ := rightS_iff.1 hr
    have hsl : s.length ≤ b.length := by rw [e]; simp
    refine ⟨l, s, hr, e, ?_, ?_⟩
    · rw [e]; exact label_take hr (by omega)
    · unfold marigraphref05_Take
      rw [app_ok (by rw [limv]; simp; omega), Option.bind_some, List.nil_append, ref_num hb (by omega), Option.bind_some]
      have hn : numS b = some (l.length, l.flatMap encX ++ s) := by
        rw [e]; unfold encL; rw [List.append_assoc]; exact numS_vint _ (by omega)
      rw [hn]
      dsimp only
      have hb2 := (numS_byt hb hn)
      have hlab := ref_labs l.length l.length ⟨l.flatMap encX ++ s, false⟩ (by omega) (by omega) l.length 0 [] _ false (by omega) rfl hb2.1 (by omega)
      rw [show iter (fun q : (List api_Label) × Int × marigraphref01_Taker => marigraphref05_Take.b2 ((l.length : Int), ⟨l.flatMap encX ++ s, false⟩) q.1 q.2.1 q.2.2) ([], 0, ⟨l.flatMap encX ++ s, false⟩) = _ from hlab, Option.bind_some, labs_enc l s false r1]
      dsimp only
      rw [List.nil_append, ref_putL hr, Option.bind_some]
      have hel : (encL l).length ≤ b.length := by rw [e]; simp
      dsimp only
      rw [cond_false, show ((0 : Int) != 0) = false from rfl, cond_false, decide_eq_false (by omega), cond_false, upto_nat hel, Option.bind_some]
      have htk : b.take (encL l).length = encL l := by rw [e, List.take_left]
      have hdr : b.drop (encL l).length = s := by rw [e, List.drop_left]
      rw [htk, strEq_eq, decide_eq_true rfl]
      simp only [Bool.not_true, Option.bind_some, cond_false, Sum.elim_inl]
      rw [from_nat hel, Option.bind_some, hdr, app_ok (by rw [limv]; simp; omega)]
      rfl
  · right
    refine ⟨?_, ?_⟩
    · unfold label_Take
      rw [octs_new (by omega), Option.bind_some, octs_num hb (by omega), Option.bind_some]
      cases hn : numS b with
      | none =>
        dsimp only
        rw [show decide ((6 : Int) < 0) = false from rfl, cond_false]
        have := octs_labs 0 (some ⟨[], true⟩) (by decide) 0 0 [] [] true rfl rfl (fun x hx => by cases hx) (by decide)
        rw [show iter (fun s : (List api_Label) × Int × (Option octs_Taker) => label_Take.b2 (0, some ⟨[], true⟩) s.1 s.2.1 s.2.2) ([], 0, some ⟨[], true⟩) = _ from this, Option.bind_some]
        show (label_Right ([] : List api_Label)).bind _ = _
        rw [label_right (by simp)]
        rfl
      | some q =>
        obtain ⟨m, s⟩ := q
        obtain ⟨hb2, hl2⟩ := numS_byt hb hn
        obtain ⟨e, hm64⟩ := numS_form hb hn
        dsimp only
        by_cases h6 : 6 < m
        · rw [decide_eq_true (by omega), cond_true]
        · rw [decide_eq_false (by omega), cond_false]
          have := octs_labs m (some ⟨s, false⟩) (by omega) m 0 [] s false (by omega) rfl hb2 (by omega)
          rw [show iter (fun q : (List api_Label) × Int × (Option octs_Taker) => label_Take.b2 ((m : Int), some ⟨s, false⟩) q.1 q.2.1 q.2.2) ([], 0, some ⟨s, false⟩) = _ from this, Option.bind_some]
          dsimp only
          rw [List.nil_append, label_right (by rw [labs_len]; omega), Option.bind_some]
          cases hr : rightS (labs m (s, false)).1 with
          | false => rfl
          | true =>
            exfalso
            obtain ⟨e2, _⟩ := labs_form m hb2 (rightS_iff.1 hr).1
            refine hf ⟨(labs m (s, false)).1, (labs m (s, false)).2.1, hr, ?_⟩
            unfold encL
            rw [labs_len, List.append_assoc, ← e2]
            exact e
    · unfold marigraphref05_Take
      rw [app_ok (by rw [limv]; simp; omega), Option.bind_some, List.nil_append, ref_num hb (by omega), Option.bind_some]
      have key : ∀ (L : List api_Label) (T : marigraphref01_Taker), L.length < 100000 → (∀ x ∈ L, x.Name.size < 1000000) → ∃ s, ((marigraphref05_Put L).bind fun y155 => (((bif T.Bad then some true else (bif (y155.2 != (0 : Int)) then some true else (bif (decide ((b.length : Int) < (y155.1.length : Int))) then some true else ((upto_ b (y155.1.length : Int)).bind fun y11_21_1 => some (!strEq (strOf y155.1) (strOf y11_21_1)))))).bind fun o167 => (bif o167 then some (.inr (([] : List api_Label), ([] : List Int), (6 : Int))) else some (.inl ()))).bind (Sum.elim (fun (o163n : Unit) => ((from_ b (y155.1.length : Int)).bind fun y198 => ((app_ 1 ([] : List Int) y198).bind fun y203 => some (L, y203, (0 : Int))))) (fun q => some q)))) = some ([], s, 6) := by
        intro L T hL hs
        cases hr : rightS L with
        | false =>
          have hp : marigraphref05_Put L = some ([], 50) := by
            unfold marigraphref05_Put
            rw [ref_right (by omega) (fun x hx => by have := hs x hx; omega), hr]; rfl
          rw [hp, Option.bind_some]
          refine ⟨[], ?_⟩
          cases T.Bad <;> rfl
        | true =>
          rw [ref_putL hr, Option.bind_some]
          dsimp only
          cases T.Bad with
          | true => exact ⟨[], rfl⟩
          | false =>
            rw [cond_false, show ((0 : Int) != 0) = false from rfl, cond_false]
            by_cases hlen : b.length < (encL L).length
            · rw [decide_eq_true (by omega)]; exact ⟨[], rfl⟩
            · rw [decide_eq_false (by omega), cond_false, upto_nat (by omega), Option.bind_some, strEq_eq]
              by_cases he : strOf (encL L) = strOf (b.take (encL L).length)
              · exfalso
                have := strOf_inj (byt_encL L) (hb.take _) he
                refine hf ⟨L, b.drop (encL L).length, hr, ?_⟩
                conv => lhs; rw [← List.take_append_drop (encL L).length b, ← this]
              · rw [decide_eq_false he]; exact ⟨[], rfl⟩
      -- the labels' texts are no longer than the bytes
      have small : ∀ (k : Nat) (st : List Int × Bool), Byt st.1 → st.1.length < 100000 → ∀ x ∈ (labs k st).1, x.Name.size < 1000000 := by
        intro k
        induction k with
        | zero => intro st _ _ x hx; cases hx
        | succ k ih =>
          intro st h1 h2 x hx
          have t1 := tx_byt h1
          have t2 := tx_byt (st := (tx st).2) t1.1
          unfold labs at hx
          dsimp only at hx
          rcases List.mem_cons.1 hx with rfl | hx
          · dsimp only
            unfold tx
            cases hn : numS st.1 with
            | none => simp
            | some q =>
              obtain ⟨m, s⟩ := q
              have h3 := numS_byt h1 hn
              dsimp only
              by_cases hm : m ≤ s.length
              · rw [if_pos hm]
                have := strB_length (strOf (s.take m))
                rw [strB_of (h3.1.take m), List.length_take] at this
                show (strOf (s.take m)).size < 1000000
                omega
              · rw [if_neg hm]; simp
          · exact ih _ t2.1 (by omega) x hx
      cases hn : numS b with
      | none =>
        dsimp only
        have := ref_labs 0 0 ⟨[], true⟩ rfl (by decide) 0 0 [] [] true rfl rfl (fun x hx => by cases hx) (by decide)
        rw [show iter (fun s : (List api_Label) × Int × marigraphref01_Taker => marigraphref05_Take.b2 (0, ⟨[], true⟩) s.1 s.2.1 s.2.2) ([], 0, ⟨[], true⟩) = _ from this, Option.bind_some]
        dsimp only
        exact key [] ⟨(labs 0 ([], true)).2.1, (labs 0 ([], true)).2.2⟩ (by decide) (fun x hx => by cases hx)
      | some q =>
        obtain ⟨m, s⟩ := q
        obtain ⟨hb2, hl2⟩ := numS_byt hb hn
        obtain ⟨e, hm64⟩ := numS_form hb hn
        dsimp only
        have := ref_labs m (min 7 m) ⟨s, false⟩ rfl hm64 (min 7 m) 0 [] s false (by omega) rfl hb2 (by omega)
        rw [show iter (fun q : (List api_Label) × Int × marigraphref01_Taker => marigraphref05_Take.b2 ((m : Int), ⟨s, false⟩) q.1 q.2.1 q.2.2) ([], 0, ⟨s, false⟩) = _ from this, Option.bind_some]
        dsimp only
        rw [List.nil_append]
        exact key _ ⟨(labs (min 7 m) (s, false)).2.1, (labs (min 7 m) (s, false)).2.2⟩ (by rw [labs_len]; omega) (small (min 7 m) (s, false) hb2 (by dsimp only; omega))
end Go.Proofs.YtikdgllagijidaaGreat
