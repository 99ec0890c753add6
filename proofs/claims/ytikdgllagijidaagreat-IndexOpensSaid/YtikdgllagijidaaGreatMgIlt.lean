/- Labels out of laid bytes. -/
import Derived.Test.YtikdgllagijidaaGreatMgIl
import Derived.Test.YtikdgllagijidaaGreatMgIw
namespace Go.Proofs.YtikdgllagijidaaGreat
open Go Go.Mg
set_option linter.unusedVariables false
set_option linter.unusedSimpArgs false

/-! ### Labels out of bytes -/
theorem octs_new {b : List Int} (h : b.length < 10000000) : octs_New b = some (some ⟨b, false⟩) := by
  unfold octs_New
  rw [app_ok (by rw [limv]; simp; omega)]; rfl
theorem label_take {l : List api_Label} {rest : List Int} (h : rightS l = true) (hr : rest.length < 500000) : label_Take (encL l ++ rest) = some (l, rest, 0) := by
  obtain ⟨h1, _, h2, h3⟩ := rightS_iff.1 h
  have hl := encL_len h
  unfold label_Take
  rw [octs_new (by simp; omega), Option.bind_some]
  have hnum : octs_Taker_Num (some ⟨encL l ++ rest, false⟩) = some ((l.length : Int), some ⟨l.flatMap encX ++ rest, false⟩) := by
    unfold encL
    rw [List.append_assoc]
    exact num_vint _ _ (by omega)
  rw [hnum, Option.bind_some]
  dsimp only
  rw [decide_eq_false (by omega), cond_false]
  obtain ⟨r, e1, rfl⟩ := iter_inv (step := fun s : (List api_Label) × Int × (Option octs_Taker) => label_Take.b2 ((l.length : Int), some ⟨l.flatMap encX ++ rest, false⟩) s.1 s.2.1 s.2.2) (fun (s : (List api_Label) × (Option octs_Taker)) i => (s.1, i, s.2)) l
    (fun s i => s.1 = l.take i ∧ s.2 = some ⟨(l.drop i).flatMap encX ++ rest, false⟩) (fun r => r = (l, some ⟨rest, false⟩)) (by
    rintro ⟨out, t⟩ i x hx ⟨s1, s2⟩
    dsimp only at s1 s2
    subst s1; subst s2
    left
    have hi := lt_of_get hx
    have hok := okL_size (h1 x (List.mem_of_getElem? hx))
    have hd := drop_cons hx
    have hlen : ((l.drop (i + 1)).flatMap encX).length ≤ 600 := by
      have := encs_len (l := l.drop (i + 1)) fun y hy => h1 y (List.mem_of_mem_drop hy)
      rw [List.length_drop] at this
      omega
    refine ⟨(l.take (i + 1), some ⟨(l.drop (i + 1)).flatMap encX ++ rest, false⟩), ?_, rfl, rfl⟩
    unfold label_Take.b2
    dsimp only
    have ev := encT_len (s := x.Val) (by omega)
    rw [decide_eq_true (by omega), cond_true, hd, List.flatMap_cons]
    unfold encX
    rw [List.append_assoc, List.append_assoc, text_enc _ _ (by omega) (by simp only [List.length_append]; unfold encX at hlen; omega), Option.bind_some]
    dsimp only
    rw [text_enc _ _ (by omega) (by simp only [List.length_append]; unfold encX at hlen; omega), Option.bind_some, app_ok (by rw [limv]; simp; omega), Option.bind_some, pur_eq, wrapu64 (by omega) (by omega), List.take_add_one, hx]
    rfl) (by
    rintro ⟨out, t⟩ ⟨s1, s2⟩
    dsimp only at s1 s2
    subst s1; subst s2
    refine ⟨_, ?_, rfl⟩
    unfold label_Take.b2
    dsimp only
    rw [decide_eq_false (by omega), cond_false, List.take_length, List.drop_length]
    rfl) ([], some ⟨l.flatMap encX ++ rest, false⟩) ⟨rfl, rfl⟩
  rw [show iter (fun s : (List api_Label) × Int × (Option octs_Taker) => label_Take.b2 ((l.length : Int), some ⟨l.flatMap encX ++ rest, false⟩) s.1 s.2.1 s.2.2) ([], 0, some ⟨l.flatMap encX ++ rest, false⟩) = _ from e1, Option.bind_some]
  dsimp only
  rw [label_right (by omega), h, Option.bind_some, Bool.not_true, cond_false]
  unfold octs_Taker_Left slices_Clone_byte_byte
  simp only [Option.isNone_some, cond_false, Option.bind_some, pur_eq]
  have hlen : (encL l ++ rest).length = (encL l).length + rest.length := List.length_append
  rw [wrap64 (by omega) (by omega), show (((encL l ++ rest).length : Int) - (rest.length : Int)) = ((encL l).length : Int) by omega, from_nat (by omega), Option.bind_some, List.drop_left, clone_ok (by rw [limv]; omega)]
  rfl

end Go.Proofs.YtikdgllagijidaaGreat
