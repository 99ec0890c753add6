/- The law IndexBack over the pure functions. -/
import Derived.Test.YtikdgllagijidaaMgIl
namespace Go.Proofs.Ytikdgllagijidaa
open Go Go.Mg
set_option linter.unusedVariables false
set_option linter.unusedSimpArgs false

/-! ### Labels out of bytes -/
theorem octs_new {b : List Int} (h : b.length < 10000000) : octs_New b = some (some ⟨b, false⟩) := by
  unfold octs_New
  rw [app_ok (by rw [limv]; simp; omega)]; rfl
theorem drop_cons {α : Type} {l : List α} {i : Nat} {x : α} (h : l[i]? = some x) : l.drop i = x :: l.drop (i + 1) := by
  obtain ⟨hi, rfl⟩ := List.getElem?_eq_some_iff.1 h
  exact List.drop_eq_getElem_cons hi
theorem label_take {l : List api_Label} {rest : List Int} (h : rightS l = true) (hr : rest.length < 500000) : label_Take (encL l ++ rest) = some (l, rest, 0) := by
  obtain ⟨h1, _, h2, h3⟩ := rightS_iff.1 h
  have hl := encL_len h
  unfold label_Take
  rw [octs_new (by simp; omega), Option.bind_some]
  have hnum : octs_Taker_Num (some ⟨encL l ++ rest, false⟩) = some ((l.length : Int), some ⟨l.flatMap encX ++ rest, false⟩) := by
    unfold encL
    rw [List.append_assoc]
    exact num_vint _ _ (by omega)
  rw [hnum, Option.bind_some]
  dsimp only
  rw [decide_eq_false (by omega), cond_false]
  obtain ⟨r, e1, rfl⟩ := iter_inv (step := fun s : (List api_Label) × Int × (Option octs_Taker) => label_Take.b2 ((l.length : Int), some ⟨l.flatMap encX ++ rest, false⟩) s.1 s.2.1 s.2.2) (fun (s : (List api_Label) × (Option octs_Taker)) i => (s.1, i, s.2)) l
    (fun s i => s.1 = l.take i ∧ s.2 = some ⟨(l.drop i).flatMap encX ++ rest, false⟩) (fun r => r = (l, some ⟨rest, false⟩)) (by
    rintro ⟨out, t⟩ i x hx ⟨s1, s2⟩
    dsimp only at s1 s2
    subst s1; subst s2
    left
    have hi := lt_of_get hx
    have hok := okL_size (h1 x (List.mem_of_getElem? hx))
    have hd := drop_cons hx
    have hlen : ((l.drop (i + 1)).flatMap encX).length ≤ 600 := by
      have := encs_len (l := l.drop (i + 1)) fun y hy => h1 y (List.mem_of_mem_drop hy)
      rw [List.length_drop] at this
      omega
    refine ⟨(l.take (i + 1), some ⟨(l.drop (i + 1)).flatMap encX ++ rest, false⟩), ?_, rfl, rfl⟩
    unfold label_Take.b2
    dsimp only
    have ev := encT_len (s := x.Val) (by omega)
    rw [decide_eq_true (by omega), cond_true, hd, List.flatMap_cons]
    unfold encX
    rw [List.append_assoc, List.append_assoc, text_enc _ _ (by omega) (by simp only [List.length_append]; unfold encX at hlen; omega), Option.bind_some]
    dsimp only
    rw [text_enc _ _ (by omega) (by simp only [List.length_append]; unfold encX at hlen; omega), Option.bind_some, app_ok (by rw [limv]; simp; omega), Option.bind_some, pur_eq, wrapu64 (by omega) (by omega), List.take_add_one, hx]
    rfl) (by
    rintro ⟨out, t⟩ ⟨s1, s2⟩
    dsimp only at s1 s2
    subst s1; subst s2
    refine ⟨_, ?_, rfl⟩
    unfold label_Take.b2
    dsimp only
    rw [decide_eq_false (by omega), cond_false, List.take_length, List.drop_length]
    rfl) ([], some ⟨l.flatMap encX ++ rest, false⟩) ⟨rfl, rfl⟩
  rw [show iter (fun s : (List api_Label) × Int × (Option octs_Taker) => label_Take.b2 ((l.length : Int), some ⟨l.flatMap encX ++ rest, false⟩) s.1 s.2.1 s.2.2) ([], 0, some ⟨l.flatMap encX ++ rest, false⟩) = _ from e1, Option.bind_some]
  dsimp only
  rw [label_right (by omega), h, Option.bind_some, Bool.not_true, cond_false]
  unfold octs_Taker_Left slices_Clone_byte_byte
  simp only [Option.isNone_some, cond_false, Option.bind_some, pur_eq]
  have hlen : (encL l ++ rest).length = (encL l).length + rest.length := List.length_append
  rw [wrap64 (by omega) (by omega), show (((encL l ++ rest).length : Int) - (rest.length : Int)) = ((encL l).length : Int) by omega, from_nat (by omega), Option.bind_some, List.drop_left, clone_ok (by rw [limv]; omega)]
  rfl

/-! ### An index as bytes -/
def encE (e : Int × List api_Label) : List Int := vint e.1.toNat ++ encL e.2
def encI (g : Int) (A : Ser) : List Int := vint g.toNat ++ (vint A.length ++ A.flatMap encE)
theorem encE_len {e : Int × List api_Label} (h : rightS e.2 = true) (h0 : e.1.toNat < 16384) : (encE e).length ≤ 508 := by
  unfold encE
  have h1 := vint_len2 h0
  have h2 := encL_len h
  rw [List.length_append]; omega
theorem encEs_len : ∀ {A : Ser}, (∀ e ∈ A, rightS e.2 = true) → (∀ e ∈ A, e.1.toNat < 16384) → (A.flatMap encE).length ≤ A.length * 508
  | [], _, _ => by simp
  | e :: A, h1, h2 => by
    have h3 := encE_len (h1 e (by simp)) (h2 e (by simp))
    have h4 := encEs_len (A := A) (fun y hy => h1 y (by simp [hy])) fun y hy => h2 y (by simp [hy])
    simp only [List.flatMap_cons, List.length_append, List.length_cons]; omega
theorem XI.rng2 {x : index_Index} {A : Ser} (H : XI x A) : ∀ e ∈ A, e.1.toNat < 16384 := fun e he => by
  have h1 := H.rng e he
  have h2 := H.g0
  omega
theorem XI.enc_len {x : index_Index} {A : Ser} (H : XI x A) : (A.flatMap encE).length ≤ 101600 := by
  have := encEs_len H.ok H.rng2
  have := H.few
  omega

theorem bytes_eq {x : index_Index} {A : Ser} (H : XI x A) : index_Index_Bytes (some x) = some (encI x.given A) := by
  have hf := H.few
  have hg := H.g0
  have v1 := vint_len2 (n := x.given.toNat) (by omega)
  have v2 := vint_len2 (n := A.length) (by omega)
  unfold index_Index_Bytes
  rw [show (some x).isNone = false from rfl, cond_false, Option.bind_some, pur_eq, show x.given = ((x.given.toNat : Nat) : Int) by omega, wu64 (by omega), octs_put (by simp) (by omega), Option.bind_some, pur_eq, H.slen, wu64 (by omega), octs_put (by simp; omega) (by omega), Option.bind_some, all_eq H, Option.bind_some, List.nil_append]
  rw [show ((x.given.toNat : Nat) : Int) = x.given by omega]
  obtain ⟨r, e1, rfl⟩ := iter_inv (step := fun s : (List Int) × Int => index_Index_Bytes.b2 x (A.map (·.1)) s.1 s.2) (fun s i => (s, i)) A
    (fun s i => s = vint x.given.toNat ++ (vint A.length ++ (A.take i).flatMap encE)) (fun r => r = encI x.given A) (by
    rintro s i e he rfl
    left
    have hi := lt_of_get he
    have hm := List.mem_of_getElem? he
    have hr := H.ok e hm
    have hrg := H.rng e hm
    have hl1 := encEs_len (A := A.take i) (fun y hy => H.ok y (List.mem_of_mem_take hy)) fun y hy => H.rng2 y (List.mem_of_mem_take hy)
    have hl2 : (A.take i).length ≤ 200 := by rw [List.length_take]; omega
    have hl3 := encL_len hr
    have hl4 := vint_len2 (n := e.1.toNat) (by omega)
    refine ⟨_, ?_, rfl⟩
    unfold index_Index_Bytes.b2
    dsimp only
    rw [decide_eq_true (by rw [List.length_map]; omega), cond_true]
    have hat : at_ (A.map (·.1)) (i : Int) = some e.1 := at_nat (by rw [List.getElem?_map, he]; rfl)
    rw [hat, Option.bind_some, H.ser, (get_mem H.rise).2 hm, Option.getD_some, label_put hr, Option.bind_some, pur_eq, show e.1 = ((e.1.toNat : Nat) : Int) by omega, wu64 (by omega),
      octs_put (by simp only [List.length_append]; omega) (by omega), Option.bind_some, app_ok (by rw [limv]; simp only [List.length_append]; omega), Option.bind_some, pur_eq, wrap64 (by omega) (by omega), List.take_add_one, he]
    simp [encE]) (by
    rintro s rfl
    refine ⟨_, ?_, rfl⟩
    unfold index_Index_Bytes.b2
    dsimp only
    rw [decide_eq_false (by rw [List.length_map]; omega), cond_false, List.take_length]
    rfl) (vint x.given.toNat ++ vint A.length) (by simp)
  rw [e1]
  rfl

/-- What is told is opened. -/
theorem open_eq {x : index_Index} {A : Ser} (H : XI x A) : ∃ y, index_Open (encI x.given A) = some (some y, 0) ∧ XI y A ∧ y.given = x.given := by
  have hf := H.few
  have hg := H.g0
  have v1 := vint_len2 (n := x.given.toNat) (by omega)
  have v2 := vint_len2 (n := A.length) (by omega)
  have hlen := H.enc_len
  have hb : (encI x.given A).length = (vint x.given.toNat).length + ((vint A.length).length + (A.flatMap encE).length) := by unfold encI; simp
  unfold index_Open index_New
  rw [octs_new (by omega), Option.bind_some]
  have n1 : octs_Taker_Num (some ⟨encI x.given A, false⟩) = some (x.given, some ⟨vint A.length ++ A.flatMap encE, false⟩) := by
    unfold encI
    rw [num_vint _ _ (by omega), show ((x.given.toNat : Nat) : Int) = x.given by omega]
  rw [n1, Option.bind_some]
  dsimp only
  rw [num_vint _ _ (by omega), Option.bind_some]
  dsimp only
  rw [decide_eq_false (by omega), cond_false, decide_eq_false (by omega)]
  simp only [Option.bind_some, cond_false, Sum.elim_inl, pur_eq]
  rw [wrap64 (x := x.given) (by omega) (by omega)]
  have hleft : octs_Taker_Left (some ⟨A.flatMap encE, false⟩) = some ((A.flatMap encE).length : Int) := rfl
  rw [hleft]
  simp only [Option.bind_some]
  rw [wrap64 (by omega) (by omega), show (((encI x.given A).length : Int) - ((A.flatMap encE).length : Int)) = (((vint x.given.toNat).length + (vint A.length).length : Nat) : Int) by omega, from_nat (by omega), Option.bind_some]
  have hd : (encI x.given A).drop ((vint x.given.toNat).length + (vint A.length).length) = A.flatMap encE := by
    unfold encI
    rw [← List.append_assoc, ← List.length_append, List.drop_left]
  rw [hd]
  have hend : ((bif ((((A.flatMap encE).length : Int) == 0)) then ((octs_Taker_End (some ⟨A.flatMap encE, false⟩)).bind fun y116 => some (y116 != (0 : Int))) else some false)) = some false := by
    cases hq : A.flatMap encE with
    | nil => rfl
    | cons a l => rfl
  rw [hend]
  simp only [Option.bind_some, cond_false, Sum.elim_inl]
  obtain ⟨r, e1, y, rfl, Hy, hy⟩ := iter_inv (step := fun s : (List Int) × Int × Int × index_Index => index_Open.b6 (x.given, some ⟨vint A.length ++ A.flatMap encE, false⟩) ((A.length : Int), some ⟨A.flatMap encE, false⟩) s.1 s.2.1 s.2.2.1 s.2.2.2)
    (fun (s : (List Int) × Int × index_Index) i => (s.1, s.2.1, i, s.2.2)) A
    (fun s i => s.1 = (A.drop i).flatMap encE ∧ (∀ e ∈ A.drop i, s.2.1 < e.1) ∧ (s.2.1 = -1 ∨ 0 ≤ s.2.1) ∧ XI s.2.2 (A.take i) ∧ s.2.2.given = x.given) (fun r => ∃ y, r = .inl ([], y) ∧ XI y A ∧ y.given = x.given) (by
    rintro ⟨rest, last, y⟩ i e he ⟨s1, s2, s3, s4, s5⟩
    dsimp only at s1 s2 s3 s4 s5
    subst s1
    left
    have hi := lt_of_get he
    have hm := List.mem_of_getElem? he
    have hr := H.ok e hm
    have hrg := H.rng e hm
    have hdc := drop_cons he
    have hrest : ((A.drop (i + 1)).flatMap encE).length ≤ 101600 := by
      have h1 := encEs_len (A := A.drop (i + 1)) (fun z hz => H.ok z (List.mem_of_mem_drop hz)) fun z hz => H.rng2 z (List.mem_of_mem_drop hz)
      have h2 : (A.drop (i + 1)).length ≤ 200 := by rw [List.length_drop]; omega
      omega
    have hl3 := encL_len hr
    have hl4 := vint_len2 (n := e.1.toNat) (by omega)
    have hsplit : A = A.take i ++ e :: A.drop (i + 1) := by rw [← hdc, List.take_append_drop]
    have hrise := H.rise
    rw [hsplit, List.map_append, List.map_cons] at hrise
    have hp := List.pairwise_append.1 hrise
    have hu := H.uniq
    rw [hsplit] at hu
    have hu := List.pairwise_append.1 hu
    have hlt : ∀ z ∈ A.take i, z.1 < e.1 := fun z hz => hp.2.2 z.1 (List.mem_map.2 ⟨z, hz, rfl⟩) e.1 (by simp)
    have hne : ∀ z ∈ A.take i, z.2 ≠ e.2 := fun z hz => hu.2.2 z hz e (by simp)
    have hltl : (A.take i).length < 200 := by rw [List.length_take]; omega
    obtain ⟨y', p1, p2, p3⟩ := put_eq s4 (id := e.1) (l := e.2) hrg.1 (by rw [s5]; exact hrg.2) hlt hr hne hltl
    have hnx : ∀ z ∈ A.drop (i + 1), e.1 < z.1 := fun z hz => (List.pairwise_cons.1 hp.2.1).1 z.1 (List.mem_map.2 ⟨z, hz, rfl⟩)
    refine ⟨((A.drop (i + 1)).flatMap encE, e.1, y'), ?_, rfl, hnx, .inr hrg.1, ?_, by rw [p3, s5]⟩
    · unfold index_Open.b6
      dsimp only
      rw [decide_eq_true (by omega), cond_true, hdc, List.flatMap_cons]
      unfold encE
      rw [List.append_assoc, octs_new (by unfold encE at hrest; simp only [List.length_append]; omega), Option.bind_some, num_vint _ _ (by omega), Option.bind_some]
      dsimp only
      have hleft : ∀ q : List Int, octs_Taker_Left (some ⟨q, false⟩) = some (q.length : Int) := fun _ => rfl
      rw [hleft, Option.bind_some, pur_eq, wrap64 (by unfold encE at hrest; simp only [List.length_append]; omega) (by unfold encE at hrest; simp only [List.length_append]; omega)]
      rw [show (((vint e.1.toNat ++ (encL e.2 ++ List.flatMap (fun e => vint e.1.toNat ++ encL e.2) (List.drop (i + 1) A))).length : Int) - ((encL e.2 ++ List.flatMap (fun e => vint e.1.toNat ++ encL e.2) (List.drop (i + 1) A)).length : Int)) = (((vint e.1.toNat).length : Nat) : Int) by simp only [List.length_append]; omega]
      rw [from_nat (by simp), Option.bind_some, List.drop_left, label_take hr (by unfold encE at hrest; omega), Option.bind_some]
      simp only [bne_self_eq_false, cond_false]
      rw [show ((e.1.toNat : Nat) : Int) = e.1 by omega, decide_eq_false (by omega), cond_false, pur_eq, wrap64 (x := e.1) (by omega) (by omega)]
      have hlast : last < e.1 := s2 e (by rw [hdc]; simp)
      rw [decide_eq_false (by omega)]
      simp only [Option.bind_some, cond_false, Sum.elim_inl]
      rw [index_keyR hr, Option.bind_some]
      have hids : mget (keyS e.2) y.ids = none := by
        rcases ids_look s4 hr with ⟨id, h4, _⟩ | ⟨_, h4⟩
        · exact absurd rfl (hne (id, e.2) h4)
        · exact h4
      dsimp only
      rw [hids, Option.isSome_none, cond_false, pur_eq, p1]
      simp only [Option.bind_some, Sum.elim_inl, pur_eq]
      rw [wrapu64 (by omega) (by omega)]
      rfl
    · dsimp only
      rw [List.take_add_one, he]
      exact p2) (by
    rintro ⟨rest, last, y⟩ ⟨s1, s2, s3, s4, s5⟩
    dsimp only at s1 s4 s5
    rw [List.drop_length] at s1
    rw [List.take_length] at s4
    subst s1
    refine ⟨_, ?_, y, rfl, s4, s5⟩
    unfold index_Open.b6
    dsimp only
    rw [decide_eq_false (by omega)]; rfl) (A.flatMap encE, -1, ⟨[], [], [], [], x.given⟩) ⟨rfl, fun e he => by have := (H.rng e he).1; dsimp only; omega, .inl rfl, xi_new.more (g := x.given) hg.1 hg.2, rfl⟩
  refine ⟨y, ?_, Hy, hy⟩
  rw [show iter (fun s : (List Int) × Int × Int × index_Index => index_Open.b6 (x.given, some ⟨vint A.length ++ A.flatMap encE, false⟩) ((A.length : Int), some ⟨A.flatMap encE, false⟩) s.1 s.2.1 s.2.2.1 s.2.2.2) (A.flatMap encE, -1, 0, ⟨[], [], [], [], x.given⟩) = _ from e1]
  rfl

/-! ### Two indexes that hold the same -/
section
variable {x y : index_Index} {A : Ser}
theorem add_both (H : XI x A) (K : XI y A) (hg : x.given = y.given) {l : List api_Label} (hl : l.length < 20) :
    ∃ i e x' y' A', index_Index_Add (some x) l = some (i, e, some x') ∧ index_Index_Add (some y) l = some (i, e, some y') ∧ XI x' A' ∧ XI y' A' ∧ x'.given = y'.given := by
  rcases add_eq H hl with ⟨a1, a2⟩ | ⟨r, a1, a2, a3⟩
  · rcases add_eq K hl with ⟨b1, b2⟩ | ⟨q, b1, b2, b3⟩
    · exact ⟨_, _, x, y, A, a2, b2, H, K, hg⟩
    · rw [a1 q b2] at b1; cases b1
  · rcases add_eq K hl with ⟨b1, b2⟩ | ⟨q, b1, b2, b3⟩
    · rw [b1 r a2] at a1; cases a1
    · obtain rfl := perm_r a1 a2 b1 b2
      rcases a3 with ⟨i, c1, c2⟩ | ⟨c1, c2⟩
      · rcases b3 with ⟨j, d1, d2⟩ | ⟨d1, d2⟩
        · obtain rfl := H.id_uniq c1 d1
          exact ⟨_, _, x, y, A, c2, d2, H, K, hg⟩
        · exact absurd rfl (d1 _ c1)
      · rcases b3 with ⟨j, d1, d2⟩ | ⟨d1, d2⟩
        · exact absurd rfl (c1 _ d1)
        · rcases c2 with ⟨c2, c3⟩ | ⟨c2, c3, x', c4, c5, c6⟩
          · rcases d2 with ⟨d2, d3⟩ | ⟨d2, d3, _⟩
            · exact ⟨_, _, x, y, A, c3, d3, H, K, hg⟩
            · omega
          · rcases d2 with ⟨d2, d3⟩ | ⟨d2, d3, y', d4, d5, d6⟩
            · omega
            · rw [← hg] at d4 d5
              exact ⟨_, _, x', y', _, c4, d4, c5, d5, by omega⟩
theorem drop_both (H : XI x A) (K : XI y A) (hg : x.given = y.given) (id : Int) :
    ∃ e x' y' A', index_Index_Drop (some x) id = some (e, some x') ∧ index_Index_Drop (some y) id = some (e, some y') ∧ XI x' A' ∧ XI y' A' ∧ x'.given = y'.given := by
  rcases drop_eq H id with ⟨a1, a2⟩ | ⟨l, a1, x', a2, a3, a4⟩
  · rcases drop_eq K id with ⟨b1, b2⟩ | ⟨m, b1, _⟩
    · exact ⟨_, x, y, A, a2, b2, H, K, hg⟩
    · rw [(get_mem K.rise).2 b1] at a1; cases a1
  · rcases drop_eq K id with ⟨b1, b2⟩ | ⟨m, b1, y', b2, b3, b4⟩
    · rw [(get_mem H.rise).2 a1] at b1; cases b1
    · exact ⟨_, x', y', _, a2, b2, a3, b3, by omega⟩
end

theorem back_ok (l more : List marigraphlaw08_Act) : marigraphlaw08_IndexBack l more = some true := by
  unfold marigraphlaw08_IndexBack index_New
  rw [shown_eq, acts_eq]
  simp only [Option.bind_some, Option.isNone_some, cond_false]
  obtain ⟨x, A, e1, H, hg⟩ := acts_loop (l.take 300) (by rw [List.length_take]; omega)
  rw [show (iter (fun s : Int × (Option index_Index) => marigraphlaw08_IndexBack.b2 (l.take 300) s.1 s.2) ((0 : Int), some (⟨[], [], [], [], 0⟩ : index_Index))) = some (some x) from e1]
  simp only [Option.bind_some]
  rw [bytes_eq H, Option.bind_some]
  obtain ⟨y, e2, K, hy⟩ := open_eq H
  rw [e2]
  simp only [Option.bind_some, Option.isNone_some, cond_false, bne_self_eq_false, Sum.elim_inl]
  have hfin : ∀ (x y : index_Index) (A : Ser), XI x A → XI y A → x.given = y.given → ((bif true then ((index_Index_Bytes (some x)).bind fun y26_3_1 => ((index_Index_Bytes (some y)).bind fun y26_6_1 => some (strEq (strOf y26_3_1) (strOf y26_6_1)))) else some false).bind fun o482 => some o482) = some true := by
    intro x y A H K hg
    rw [cond_true, bytes_eq H, Option.bind_some, bytes_eq K, Option.bind_some, hg, strEq_eq, decide_eq_true rfl]
    rfl
  obtain ⟨r, e3, x', y', A', rfl, H', K', hg'⟩ := iter_inv (step := fun s : Int × (Option index_Index) × (Option index_Index) => marigraphlaw08_IndexBack.b7 more s.1 s.2.1 s.2.2) (fun (s : (Option index_Index) × (Option index_Index)) i => (i, s.1, s.2)) more
    (fun s i => i ≤ 30 ∧ ∃ x y A, s = (some x, some y) ∧ XI x A ∧ XI y A ∧ x.given = y.given) (fun r => ∃ x y A, r = .inl (some x, some y) ∧ XI x A ∧ XI y A ∧ x.given = y.given) (by
    rintro s i a ha ⟨hi30, x, y, A, rfl, H, K, hg⟩
    have hi := lt_of_get ha
    unfold marigraphlaw08_IndexBack.b7
    dsimp only
    rw [decide_eq_true (by omega), cond_true, at_nat ha, Option.bind_some, pur_eq]
    by_cases h30 : 30 ≤ i
    · right
      rw [decide_eq_true (by omega), cond_true]
      exact ⟨_, rfl, x, y, A, rfl, H, K, hg⟩
    · left
      rw [decide_eq_false (by omega), cond_false]
      obtain ⟨q, q1, q2, q3⟩ := some_eq a.A
      obtain ⟨f, f1, f2, f3⟩ := few_eq a.L
      rw [q1, f1]
      simp only [Option.bind_some]
      rw [find_eq H, find_eq K]
      simp only [Option.bind_some]
      obtain ⟨i1, er1, x1, y1, A1, a1, a2, H1, K1, g1⟩ := add_both H K hg (l := f) (by omega)
      rw [a1, a2]
      simp only [Option.bind_some]
      obtain ⟨er2, x2, y2, A2, d1, d2, H2, K2, g2⟩ := drop_both H1 K1 g1 a.Id
      rw [ints_eq (by split; exact (H.good _).lim; simp), decide_eq_true rfl]
      simp only [Option.bind_some, bne_self_eq_false, cond_false, Bool.not_true]
      rw [d1, d2]
      simp only [Option.bind_some, bne_self_eq_false, cond_false, Sum.elim_inl, pur_eq]
      refine ⟨(some x2, some y2), ?_, by omega, x2, y2, A2, rfl, H2, K2, g2⟩
      rw [wrap64 (by omega) (by omega)]
      rfl) (by
    rintro s ⟨_, x, y, A, rfl, H, K, hg⟩
    refine ⟨_, ?_, x, y, A, rfl, H, K, hg⟩
    unfold marigraphlaw08_IndexBack.b7
    dsimp only
    rw [decide_eq_false (by omega)]; rfl) (some x, some y) ⟨by omega, x, y, A, rfl, H, K, hy.symm⟩
  rw [show iter (fun s : Int × (Option index_Index) × (Option index_Index) => marigraphlaw08_IndexBack.b7 more s.1 s.2.1 s.2.2) (0, some x, some y) = _ from e3]
  simp only [Option.bind_some, Sum.elim_inl]
  exact hfin x' y' A' H' K' hg'
theorem indexBack_ok {R R2 : marigraphlaw08_Act → Prop} {a0 a1 : List marigraphlaw08_Act} (_ : OkL R a0) (_ : OkL R2 a1) : marigraphlaw08_IndexBack a0 a1 = some true := back_ok a0 a1
end Go.Proofs.Ytikdgllagijidaa
