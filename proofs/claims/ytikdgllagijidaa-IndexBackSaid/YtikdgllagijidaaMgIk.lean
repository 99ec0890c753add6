/- The laws IndexIds, IndexVals over the pure functions. -/
import Derived.Test.YtikdgllagijidaaMgIj
namespace Go.Proofs.Ytikdgllagijidaa
open Go Go.Mg
set_option linter.unusedVariables false
set_option linter.unusedSimpArgs false

/-! ### IndexIds -/
section
variable {x : index_Index} {A : Ser} {l r : List api_Label} {id : Int}
theorem perm_r {q : List api_Label} (h : rightS r = true) (hp : r.Perm l) (hq : rightS q = true) (hqp : q.Perm l) : q = r := right_uniq h (hqp.trans hp.symm) (rightS_nle hq)
theorem add_in (H : XI x A) (hl : l.length < 20) (hr : rightS r = true) (hp : r.Perm l) (hn : ∀ e ∈ A, e.2 ≠ r) (hA : A.length < 200) (hg : x.given < 4096) :
    ∃ x', index_Index_Add (some x) l = some (x.given, 0, some x') ∧ XI x' (A ++ [(x.given, r)]) ∧ x'.given = x.given + 1 := by
  rcases add_eq H hl with ⟨h1, _⟩ | ⟨q, h1, h2, h3⟩
  · rw [h1 r hp] at hr; cases hr
  · obtain rfl := perm_r hr hp h1 h2
    rcases h3 with ⟨i, h3, _⟩ | ⟨_, ⟨h3, _⟩ | ⟨_, _, h3⟩⟩
    · exact absurd rfl (hn _ h3)
    · omega
    · exact h3
theorem add_any (H : XI x A) (hl : l.length < 20) (hA : A.length < 200) : ∃ i e x' A', index_Index_Add (some x) l = some (i, e, some x') ∧ XI x' A' ∧ (∀ e ∈ A, e ∈ A') ∧ x.given ≤ x'.given ∧ x'.given ≤ x.given + 1 ∧ A'.length ≤ A.length + 1 := by
  rcases add_eq H hl with ⟨_, h4⟩ | ⟨q, _, _, ⟨id, _, h4⟩ | ⟨_, ⟨_, h4⟩ | ⟨_, _, x', h4, H', h5⟩⟩⟩
  · exact ⟨_, _, x, A, h4, H, fun _ h => h, by omega, by omega, by omega⟩
  · exact ⟨_, _, x, A, h4, H, fun _ h => h, by omega, by omega, by omega⟩
  · exact ⟨_, _, x, A, h4, H, fun _ h => h, by omega, by omega, by omega⟩
  · exact ⟨_, _, x', _, h4, H', fun e h => by simp [h], by omega, by omega, by simp⟩
theorem id_in (H : XI x A) (hl : l.length < 20) (hr : rightS r = true) (hp : r.Perm l) (hm : (id, r) ∈ A) : index_Index_Id (some x) l = some (id, true) := by
  rcases id_eq H hl with ⟨h1, _⟩ | ⟨q, h1, h2, h3⟩
  · rw [h1 r hp] at hr; cases hr
  · obtain rfl := perm_r hr hp h1 h2
    rcases h3 with ⟨i, h3, h4⟩ | ⟨h3, _⟩
    · rw [h4, H.id_uniq h3 hm]
    · exact absurd rfl (h3 _ hm)
theorem id_out (H : XI x A) (hl : l.length < 20) (hr : rightS r = true) (hp : r.Perm l) (hn : ∀ e ∈ A, e.2 ≠ r) : index_Index_Id (some x) l = some (0, false) := by
  rcases id_eq H hl with ⟨h1, h2⟩ | ⟨q, h1, h2, h3⟩
  · exact h2
  · obtain rfl := perm_r hr hp h1 h2
    rcases h3 with ⟨i, h3, h4⟩ | ⟨_, h3⟩
    · exact absurd rfl (hn _ h3)
    · exact h3
end

theorem ids_ok (l : List api_Label) (more : List (List api_Label)) (t : Int) : marigraphlaw08_IndexIds l more t = some true := by
  unfold marigraphlaw08_IndexIds index_New
  rw [shown_eq]
  simp only [Option.bind_some, Option.isNone_some, cond_false, pur_eq]
  obtain ⟨fl, f1, f2, f3⟩ := few_eq l
  have ht : ∃ n : Int, IntKind.i64.wrap (IntKind.i64.wrap (Int.tmod t 20) + 1) = n ∧ n ≤ 20 := by
    have h1 := Int.tmod_lt_of_pos t (by decide : (0 : Int) < 20)
    have h2 := Int.lt_tmod_of_pos t (by decide : (0 : Int) < 20)
    rw [wrap64 (x := Int.tmod t 20) (by omega) (by omega), wrap64 (by omega) (by omega)]
    exact ⟨_, rfl, by omega⟩
  obtain ⟨n, hn, hn2⟩ := ht
  rw [hn]
  rcases index_keyS (l := fl) (by omega) with ⟨r, hr, hp, _⟩ | ⟨hno, _⟩
  · obtain ⟨q, e1, hq⟩ := iter_total (step := fun s : Int × Int × (Option index_Index) => marigraphlaw08_IndexIds.b2 l more true n s.1 s.2.1 s.2.2)
      (fun s => ∃ (i : Nat) (x : index_Index) (A : Ser), s.2.1 = (i : Int) ∧ i ≤ 20 ∧ s.2.2 = some x ∧ XI x A ∧ s.1 < x.given ∧ x.given ≤ 2 * i ∧ A.length ≤ 2 * i ∧ ∀ e ∈ A, e.2 ≠ r)
      (fun s => 20 - s.2.1.toNat) (fun q => ∃ x, q = .inl x) (by
      rintro ⟨last, i', x'⟩ ⟨i, x, A, h1, h2, h3, H, h4, h5, h6, h7⟩
      dsimp only at h1 h3 h4
      subst h1; subst h3
      unfold marigraphlaw08_IndexIds.b2
      dsimp only
      by_cases hi : (i : Int) < n
      · left
        rw [decide_eq_true hi, cond_true, f1]
        simp only [Option.bind_some]
        obtain ⟨x1, g1, H1, g2⟩ := add_in H (l := fl) (by omega) hr hp h7 (by omega) (by omega)
        rw [g1]
        simp only [Option.bind_some, bne_self_eq_false, cond_false]
        have hm1 : (x.given, r) ∈ A ++ [(x.given, r)] := by simp
        rw [id_in H1 (by omega) hr hp hm1]
        simp only [Option.bind_some, bne_self_eq_false, Bool.not_true, cond_false]
        rw [decide_eq_false (by omega)]
        simp only [Option.bind_some, cond_false, Sum.elim_inl]
        have hmore : ∃ x2 A2, (bif (decide ((i : Int) < (more.length : Int))) then ((at_ more (i : Int)).bind fun y158 => ((marigraphlaw08_few y158).bind fun y163 => ((index_Index_Add (some x1) y163).bind fun y170 => some y170.2.2))) else some (some x1)) = some (some x2) ∧
            XI x2 A2 ∧ (x.given, r) ∈ A2 ∧ x1.given ≤ x2.given ∧ x2.given ≤ x1.given + 1 ∧ A2.length ≤ A.length + 2 := by
          by_cases hm : i < more.length
          · have hmi := List.getElem?_eq_getElem hm
            rw [decide_eq_true (by omega), cond_true, at_nat hmi, Option.bind_some]
            obtain ⟨fm, k1, k2, k3⟩ := few_eq more[i]
            rw [k1, Option.bind_some]
            obtain ⟨_, _, x2, A2, k4, H2, k5, k6, k7, k8⟩ := add_any H1 (l := fm) (by omega) (by simp; omega)
            rw [k4]
            exact ⟨x2, A2, rfl, H2, k5 _ hm1, k6, k7, by simp at k8; omega⟩
          · rw [decide_eq_false (by omega), cond_false]
            exact ⟨x1, _, rfl, H1, hm1, by omega, by omega, by simp⟩
        obtain ⟨x2, A2, e2, H2, hm2, k1, k2, k3⟩ := hmore
        rw [e2]
        simp only [Option.bind_some]
        rcases drop_eq H2 x.given with ⟨hd, _⟩ | ⟨m, hd, x3, e3, H3, k4⟩
        · rw [(get_mem H2.rise).2 hm2] at hd; cases hd
        rw [e3]
        simp only [Option.bind_some]
        have hnone : mget x.given (offS x.given A2) = none := by
          cases hq : mget x.given (offS x.given A2) with
          | none => rfl
          | some m => exact absurd rfl (mem_off.1 ((get_mem H3.rise).1 hq)).2
        have hout : ∀ e ∈ offS x.given A2, e.2 ≠ r := by
          intro e he h
          obtain ⟨he1, he2⟩ := mem_off.1 he
          exact he2 (H2.id_uniq (l := r) (by rw [← h]; exact he1) hm2)
        rw [labels_eq H3, hnone, Option.bind_some]
        rw [id_out H3 (by omega) hr hp hout, Option.bind_some]
        simp only [bne_self_eq_false, Option.isSome_none, cond_false]
        rcases drop_eq H3 x.given with ⟨_, hd2⟩ | ⟨m2, hd2, _⟩
        · rw [hd2]
          simp only [Option.bind_some, bne_self_eq_false, cond_false, Sum.elim_inl, pur_eq]
          refine ⟨(x.given, ((i + 1 : Nat) : Int), some x3), ?_, ⟨i + 1, x3, offS x.given A2, rfl, by omega, rfl, H3, by dsimp only; omega, by omega, ?_, hout⟩, by dsimp only; omega⟩
          · rw [wrap64 (by omega) (by omega)]; rfl
          · have : (offS x.given A2).length ≤ A2.length := List.length_filter_le _ _
            omega
        · exact absurd rfl (mem_off.1 hd2).2
      · right
        rw [decide_eq_false hi]
        exact ⟨_, rfl, _, rfl⟩) ((-1 : Int), (0 : Int), some ⟨[], [], [], [], 0⟩) ⟨0, _, [], rfl, by decide, rfl, xi_new, by decide, by decide, by decide, by simp⟩
    obtain ⟨_, rfl⟩ := hq
    rw [e1]
    rfl
  · by_cases h0 : 0 < n
    · rw [iter_end (r := .inr true)]
      · rfl
      · unfold marigraphlaw08_IndexIds.b2
        dsimp only
        rw [decide_eq_true h0, cond_true, f1]
        simp only [Option.bind_some]
        have hadd : index_Index_Add (some ⟨[], [], [], [], 0⟩) fl = some (0, 50, some ⟨[], [], [], [], 0⟩) := by
          rcases add_eq xi_new (l := fl) (by omega) with ⟨_, h4⟩ | ⟨q, h4, h5, _⟩
          · exact h4
          · rw [hno q h5] at h4; cases h4
        rw [hadd]
        simp only [Option.bind_some]
        rw [ref_right (by omega) fun y hy => by have := f3 y hy; omega, hno fl (.refl _)]
        rfl
    · rw [iter_end (r := .inl (some ⟨[], [], [], [], 0⟩))]
      · rfl
      · unfold marigraphlaw08_IndexIds.b2
        dsimp only
        rw [decide_eq_false h0]; rfl

/-! ### IndexVals -/
theorem sum_snoc {f : ByteArray → Nat} {V : List ByteArray} {v : ByteArray} : ((V ++ [v]).map f).sum = (V.map f).sum + f v := by simp
theorem count_one {V : List ByteArray} {w : ByteArray} (hn : V.Nodup) (hw : w ∈ V) (p : ByteArray → Bool) (hp : ∀ v ∈ V, p v = decide (v = w)) : (V.map fun v => if p v = true then 1 else 0).sum = 1 := by
  induction V with
  | nil => cases hw
  | cons v V ih =>
    rw [List.nodup_cons] at hn
    rw [List.map_cons, List.sum_cons, hp v (by simp)]
    by_cases h : v = w
    · subst h
      have : (V.map fun v => if p v = true then 1 else 0).sum = 0 := by
        rw [List.sum_eq_zero_iff_forall_eq_nat]
        intro z hz
        obtain ⟨u, hu, rfl⟩ := List.mem_map.1 hz
        rw [hp u (by simp [hu])]
        have : ¬ u = v := fun e => hn.1 (e ▸ hu)
        simp [this]
      rw [this]; simp
    · have hw' : w ∈ V := by
        rcases List.mem_cons.1 hw with e | e
        · exact absurd e.symm h
        · exact e
      rw [ih hn.2 hw' fun u hu => hp u (by simp [hu])]
      simp [h]
theorem idsOf_cons_len {p : List api_Label → Bool} {e : Int × List api_Label} {A : Ser} : (idsOf p (e :: A)).length = (if p e.2 = true then 1 else 0) + (idsOf p A).length := by
  unfold idsOf
  rw [List.filter_cons]
  cases p e.2 <;> simp; omega
/-- Each series with a name is told by one text. -/
theorem vals_count (s : ByteArray) {V : List ByteArray} (hV : V.Nodup) : ∀ A : Ser, (∀ e ∈ A, rightS e.2 = true) → (∀ e ∈ A, ∀ v, (⟨s, v⟩ : api_Label) ∈ e.2 → v ∈ V) →
    (V.map fun v => (idsOf (has ⟨s, v⟩) A).length).sum = (idsOf (hasN s) A).length
  | [], _, _ => by
    rw [List.sum_eq_zero_iff_forall_eq_nat.2]
    · rfl
    · intro z hz; obtain ⟨v, _, rfl⟩ := List.mem_map.1 hz; rfl
  | e :: A, h1, h2 => by
    have ih := vals_count s hV A (fun x hx => h1 x (by simp [hx])) fun x hx => h2 x (by simp [hx])
    have hsum : (V.map fun v => (idsOf (has ⟨s, v⟩) (e :: A)).length).sum = (V.map fun v => if has ⟨s, v⟩ e.2 = true then 1 else 0).sum + (V.map fun v => (idsOf (has ⟨s, v⟩) A).length).sum := by
      clear ih h2
      induction V with
      | nil => rfl
      | cons v V ihV =>
        rw [List.nodup_cons] at hV
        simp only [List.map_cons, List.sum_cons]
        rw [ihV hV.2, idsOf_cons_len]
        omega
    rw [hsum, ih, idsOf_cons_len]
    congr 1
    have hr := h1 e (by simp)
    rw [← getS_name]
    cases hg : getS e.2 s with
    | some w =>
      rw [count_one hV (w := w) (h2 e (by simp) w ((getS_iff hr).1 hg)) (fun v => has ⟨s, v⟩ e.2)]
      · rfl
      · intro v _
        rw [Bool.eq_iff_iff, has_iff, decide_eq_true_iff, ← getS_iff hr, hg]
        exact ⟨fun h => (Option.some.inj h).symm, fun h => by rw [h]⟩
    | none =>
      rw [List.sum_eq_zero_iff_forall_eq_nat.2]
      · rfl
      · intro z hz
        obtain ⟨v, _, rfl⟩ := List.mem_map.1 hz
        have : ¬ (has ⟨s, v⟩ e.2 = true) := by
          rw [has_iff, ← getS_iff hr, hg]; simp
        rw [if_neg this]

theorem strSort_perm (l : List ByteArray) : (strSort l).Perm l := by
  unfold strSort
  refine ((List.mergeSort_perm _ _).map _).trans ?_
  rw [List.map_map]
  refine List.Perm.of_eq ((List.map_congr_left fun x _ => ?_).trans (List.map_id l))
  cases x; simp
theorem strSort_rise {l : List ByteArray} (hn : l.Nodup) : (strSort l).Pairwise fun a b => strLt a b = true := by
  have hnd : (strSort l).Nodup := (strSort_perm l).nodup_iff.2 hn
  have t : ∀ a b c : List UInt8, decide (a ≤ b) = true → decide (b ≤ c) = true → decide (a ≤ c) = true := fun a b c h1 h2 => by
    simp only [decide_eq_true_eq] at *; exact List.le_trans h1 h2
  have tot : ∀ a b : List UInt8, (decide (a ≤ b) || decide (b ≤ a)) = true := fun a b => by
    simp only [Bool.or_eq_true, decide_eq_true_eq]; exact List.le_total a b
  have hs : (strSort l).Pairwise fun a b => a.data.toList ≤ b.data.toList := by
    unfold strSort
    rw [List.pairwise_map]
    exact (List.pairwise_mergeSort t tot _).imp fun h => by simpa using h
  refine (hs.and hnd).imp fun {a b} ⟨h1, h2⟩ => ?_
  rw [strLt_eq]
  refine decide_eq_true ?_
  rcases List.le_iff_lt_or_eq.1 h1 with h | h
  · exact h
  · exact absurd (ba_ext h) h2

theorem XI.posts_len {x : index_Index} {A : Ser} (H : XI x A) : x.posts.length ≤ 1200 := by
  have h1 : ∀ y ∈ x.posts.map (·.1), y ∈ A.flatMap (·.2) := by
    intro y hy
    rw [mem_keys, H.posts] at hy
    cases hq : idsOf (has y) A with
    | nil => rw [hq] at hy; cases hy
    | cons i is =>
      obtain ⟨l, h1, h2⟩ := mem_idsOf.1 (show i ∈ idsOf (has y) A by rw [hq]; simp)
      exact List.mem_flatMap.2 ⟨_, h1, has_iff.1 h2⟩
  have h2 := H.postsN.length_le_of_subset h1
  have h3 : ∀ B : Ser, (∀ e ∈ B, rightS e.2 = true) → (B.flatMap (·.2)).length ≤ B.length * 6 := by
    intro B
    induction B with
    | nil => intro _; simp
    | cons e B ih =>
      intro h
      have h4 := ih fun y hy => h y (by simp [hy])
      have h5 := (rightS_iff.1 (h e (by simp))).2.2
      simp only [List.flatMap_cons, List.length_append, List.length_cons]; omega
  have h4 := h3 A H.ok
  have h5 := H.few
  rw [List.length_map] at h2
  omega

/-- What a label is, of all series. -/
theorem vals_eq {x : index_Index} {A : Ser} (H : XI x A) (s : ByteArray) : ∃ V, index_Index_Vals (some x) s = some V ∧ V.length ≤ 1200 ∧ V.Nodup ∧ (V.Pairwise fun a b => strLt a b = true) ∧ ∀ v, v ∈ V ↔ idsOf (has ⟨s, v⟩) A ≠ [] := by
  have hl := H.posts_len
  let W := ((x.posts.map (·.1)).filter fun y => y.Name == s).map (·.Val)
  have hmem : ∀ v, v ∈ W ↔ (⟨s, v⟩ : api_Label) ∈ x.posts.map (·.1) := by
    intro v
    constructor
    · intro h
      obtain ⟨y, h1, rfl⟩ := List.mem_map.1 h
      obtain ⟨h1, h2⟩ := List.mem_filter.1 h1
      rw [ba_beq, decide_eq_true_iff] at h2
      cases y
      dsimp only at h2 ⊢
      rw [← h2]; exact h1
    · intro h
      exact List.mem_map.2 ⟨⟨s, v⟩, List.mem_filter.2 ⟨h, by rw [ba_beq]; simp⟩, rfl⟩
  have hWn : W.Nodup := by
    refine List.pairwise_map.2 ?_
    refine List.Pairwise.imp_of_mem ?_ (H.postsN.filter _)
    intro a b ha hb hab e
    have ha := (List.mem_filter.1 ha).2
    have hb := (List.mem_filter.1 hb).2
    rw [ba_beq, decide_eq_true_iff] at ha hb
    refine hab ?_
    cases a; cases b
    simp_all
  refine ⟨strSort W, ?_, ?_, (strSort_perm W).nodup_iff.2 hWn, strSort_rise hWn, fun v => ?_⟩
  · unfold index_Index_Vals
    dsimp only
    rw [if_pos (by rw [limv]; omega)]
  · rw [strSort_len, List.length_map]
    have := List.length_filter_le (fun y : api_Label => y.Name == s) (x.posts.map (·.1))
    rw [List.length_map] at this
    omega
  · rw [(strSort_perm W).mem_iff, hmem, mem_keys, H.posts]
    cases idsOf (has ⟨s, v⟩) A <;> simp [ne]
theorem vals_ok (l : List marigraphlaw08_Act) (name : ByteArray) : marigraphlaw08_IndexVals l name = some true := by
  unfold marigraphlaw08_IndexVals index_New
  rw [shown_eq, acts_eq]
  simp only [Option.bind_some, Option.isNone_some, cond_false]
  obtain ⟨x, A, e1, H, hg⟩ := acts_loop (l.take 300) (by rw [List.length_take]; omega)
  rw [show (iter (fun s : Int × (Option index_Index) => marigraphlaw08_IndexVals.b2 (l.take 300) s.1 s.2) ((0 : Int), some (⟨[], [], [], [], 0⟩ : index_Index))) = some (some x) from e1]
  simp only [Option.bind_some, pur_eq]
  obtain ⟨s, hs, hs2⟩ := few_text name 100
  rw [show supto_ name (if (100 : Int) < (name.size : Int) then 100 else (name.size : Int)) = some s from hs, Option.bind_some]
  obtain ⟨V, v1, v2, v3, v4, v5⟩ := vals_eq H s
  rw [v1, Option.bind_some]
  have hone : ∀ p, (idsOf p A).length ≤ 200 := fun p => Nat.le_trans idsOf_len H.few
  obtain ⟨r, e2, n, hr, hn⟩ := iter_inv (step := fun q : Int × ByteArray × Int => marigraphlaw08_IndexVals.b5 (some x) s V q.1 q.2.1 q.2.2) (fun (st : Int × ByteArray) i => (st.1, st.2, i)) V
    (fun st i => ∃ n : Nat, st.1 = (n : Int) ∧ n ≤ 200 * i ∧ n = ((V.take i).map fun v => (idsOf (has ⟨s, v⟩) A).length).sum ∧ (0 < i → V[i - 1]? = some st.2))
    (fun r => ∃ n : Nat, r = .inl (n : Int) ∧ n = (V.map fun v => (idsOf (has ⟨s, v⟩) A).length).sum) (by
    rintro ⟨c, last⟩ i v hv ⟨n, h1, h2, h3, h4⟩
    dsimp only at h1 h4
    subst h1
    left
    have hi := lt_of_get hv
    have h6 := hone (has ⟨s, v⟩)
    refine ⟨(((n + (idsOf (has ⟨s, v⟩) A).length : Nat) : Int), v), ?_, n + (idsOf (has ⟨s, v⟩) A).length, rfl, by omega, ?_, fun _ => by simpa using hv⟩
    · unfold marigraphlaw08_IndexVals.b5
      dsimp only
      rw [decide_eq_true (by omega), cond_true, at_nat hv, Option.bind_some, post_eq H, Option.bind_some]
      have hne : ((idsOf (has ⟨s, v⟩) A).length : Int) == 0 ↔ False := by
        have := (v5 v).1 (List.mem_of_getElem? hv)
        cases hq : idsOf (has ⟨s, v⟩) A with
        | nil => exact absurd hq this
        | cons => simp; omega
      have hne : (((idsOf (has ⟨s, v⟩) A).length : Int) == 0) = false := by
        cases hq : (((idsOf (has ⟨s, v⟩) A).length : Int) == 0) with
        | false => rfl
        | true => exact (hne.1 hq).elim
      rw [hne]
      have hc : (bif decide ((0 : Int) < (i : Int)) then (bif (strLt v last || strEq v last) then some true else some false) else some false) = some false := by
        by_cases h0 : 0 < i
        · rw [decide_eq_true (by omega), cond_true, strLe_eq]
          have hl := h4 h0
          obtain ⟨hi1, he1⟩ := List.getElem?_eq_some_iff.1 hl
          obtain ⟨hi2, he2⟩ := List.getElem?_eq_some_iff.1 hv
          have := List.pairwise_iff_getElem.1 v4 (i - 1) i hi1 hi2 (by omega)
          rw [he1, he2] at this
          rw [this]; rfl
        · rw [decide_eq_false (by omega), cond_false]
      rw [hc]
      simp only [Option.bind_some, cond_false, Sum.elim_inl, pur_eq]
      rw [wrap64 (by omega) (by omega), wrap64 (by omega) (by omega)]
      rfl
    · rw [List.take_add_one, hv, Option.toList_some, sum_snoc, ← h3]) (by
    rintro ⟨c, last⟩ ⟨n, h1, h2, h3, h4⟩
    dsimp only at h1
    subst h1
    rw [List.take_length] at h3
    refine ⟨.inl (n : Int), ?_, n, rfl, h3⟩
    unfold marigraphlaw08_IndexVals.b5
    dsimp only
    rw [decide_eq_false (by omega)]; rfl) ((0 : Int), ByteArray.empty) ⟨0, rfl, by omega, by simp, fun h => by omega⟩
  rw [show iter (fun q : Int × ByteArray × Int => marigraphlaw08_IndexVals.b5 (some x) s V q.1 q.2.1 q.2.2) (0, ByteArray.empty, 0) = _ from e2, hr]
  simp only [Option.bind_some, Sum.elim_inl]
  rw [find_eq H, Option.bind_some]
  cases hra : rightA [(⟨4, s, ByteArray.empty⟩ : api_Ask)] with
  | false =>
    have hV : V = [] := by
      cases V with
      | nil => rfl
      | cons v V =>
        have := (v5 v).1 (by simp)
        cases hq : idsOf (has ⟨s, v⟩) A with
        | nil => exact absurd hq this
        | cons i is =>
          obtain ⟨m, h1, h2⟩ := mem_idsOf.1 (show i ∈ idsOf (has ⟨s, v⟩) A by rw [hq]; simp)
          have h3 := (rightS_iff.1 (H.ok _ h1)).1 _ (has_iff.1 h2)
          unfold okL at h3
          simp only [Bool.and_eq_true] at h3
          unfold rightA mayS at hra
          simp [h3.1] at hra
    rw [hV] at hn
    rw [hn]
    rfl
  | true =>
    have hcnt : (idsOf (allS [⟨4, s, ByteArray.empty⟩]) A).length = n := by
      rw [hn, vals_count s v3 A H.ok]
      · congr 1
        refine idsOf_congr fun e _ => ?_
        unfold allS oneS
        simp [getS_name]
      · intro e he v hv
        rw [v5]
        intro h
        have : e.1 ∈ idsOf (has ⟨s, v⟩) A := mem_idsOf.2 ⟨e.2, he, has_iff.2 hv⟩
        rw [h] at this; cases this
    rw [if_pos rfl]
    simp only [bne_self_eq_false, cond_false, beq_self_eq_true, cond_true, Option.bind_some]
    rw [hcnt]
    simp

theorem indexIds_ok {Q : Prop} {R : api_Label → Prop} {R2 : List api_Label → Prop} {a0 : List api_Label} {a1 : List (List api_Label)} {a2 : Int} (_ : OkL R a0) (_ : OkL R2 a1) (_ : Q) : marigraphlaw08_IndexIds a0 a1 a2 = some true := ids_ok a0 a1 a2
theorem indexVals_ok {Q : Prop} {R : marigraphlaw08_Act → Prop} {a0 : List marigraphlaw08_Act} {a1 : ByteArray} (_ : OkL R a0) (_ : Q) : marigraphlaw08_IndexVals a0 a1 = some true := vals_ok a0 a1
end Go.Proofs.Ytikdgllagijidaa
