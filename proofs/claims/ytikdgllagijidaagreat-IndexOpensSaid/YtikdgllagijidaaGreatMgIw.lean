/- Plain laws of the index: an index as bytes. -/
import Derived.Test.YtikdgllagijidaaGreatMgIi
namespace Go.Proofs.YtikdgllagijidaaGreat
open Go Go.Mg
set_option linter.unusedVariables false
set_option linter.unusedSimpArgs false

theorem drop_cons {α : Type} {l : List α} {i : Nat} {x : α} (h : l[i]? = some x) : l.drop i = x :: l.drop (i + 1) := by
  obtain ⟨hi, rfl⟩ := List.getElem?_eq_some_iff.1 h
  exact List.drop_eq_getElem_cons hi
/-! ### An index as bytes -/
def encE (e : Int × List api_Label) : List Int := vint e.1.toNat ++ encL e.2
def encI (g : Int) (A : Ser) : List Int := vint g.toNat ++ (vint A.length ++ A.flatMap encE)
theorem encE_len {e : Int × List api_Label} (h : rightS e.2 = true) (h0 : e.1.toNat < 16384) : (encE e).length ≤ 508 := by
  unfold encE
  have h1 := vint_len2 h0
  have h2 := encL_len h
  rw [List.length_append]; omega
theorem encEs_len : ∀ {A : Ser}, (∀ e ∈ A, rightS e.2 = true) → (∀ e ∈ A, e.1.toNat < 16384) → (A.flatMap encE).length ≤ A.length * 508
  | [], _, _ => by simp
  | e :: A, h1, h2 => by
    have h3 := encE_len (h1 e (by simp)) (h2 e (by simp))
    have h4 := encEs_len (A := A) (fun y hy => h1 y (by simp [hy])) fun y hy => h2 y (by simp [hy])
    simp only [List.flatMap_cons, List.length_append, List.length_cons]; omega
theorem XI.rng2 {x : index_Index} {A : Ser} (H : XI x A) : ∀ e ∈ A, e.1.toNat < 16384 := fun e he => by
  have h1 := H.rng e he
  have h2 := H.g0
  omega
theorem XI.enc_len {x : index_Index} {A : Ser} (H : XI x A) : (A.flatMap encE).length ≤ 101600 := by
  have := encEs_len H.ok H.rng2
  have := H.few
  omega

theorem bytes_eq {x : index_Index} {A : Ser} (H : XI x A) : index_Index_Bytes (some x) = some (encI x.given A) := by
  have hf := H.few
  have hg := H.g0
  have v1 := vint_len2 (n := x.given.toNat) (by omega)
  have v2 := vint_len2 (n := A.length) (by omega)
  unfold index_Index_Bytes
  rw [show (some x).isNone = false from rfl, cond_false, Option.bind_some, pur_eq, show x.given = ((x.given.toNat : Nat) : Int) by omega, wu64 (by omega), octs_put (by simp) (by omega), Option.bind_some, pur_eq, H.slen, wu64 (by omega), octs_put (by simp; omega) (by omega), Option.bind_some, all_eq H, Option.bind_some, List.nil_append]
  rw [show ((x.given.toNat : Nat) : Int) = x.given by omega]
  obtain ⟨r, e1, rfl⟩ := iter_inv (step := fun s : (List Int) × Int => index_Index_Bytes.b2 x (A.map (·.1)) s.1 s.2) (fun s i => (s, i)) A
    (fun s i => s = vint x.given.toNat ++ (vint A.length ++ (A.take i).flatMap encE)) (fun r => r = encI x.given A) (by
    rintro s i e he rfl
    left
    have hi := lt_of_get he
    have hm := List.mem_of_getElem? he
    have hr := H.ok e hm
    have hrg := H.rng e hm
    have hl1 := encEs_len (A := A.take i) (fun y hy => H.ok y (List.mem_of_mem_take hy)) fun y hy => H.rng2 y (List.mem_of_mem_take hy)
    have hl2 : (A.take i).length ≤ 200 := by rw [List.length_take]; omega
    have hl3 := encL_len hr
    have hl4 := vint_len2 (n := e.1.toNat) (by omega)
    refine ⟨_, ?_, rfl⟩
    unfold index_Index_Bytes.b2
    dsimp only
    rw [decide_eq_true (by rw [List.length_map]; omega), cond_true]
    have hat : at_ (A.map (·.1)) (i : Int) = some e.1 := at_nat (by rw [List.getElem?_map, he]; rfl)
    rw [hat, Option.bind_some, H.ser, (get_mem H.rise).2 hm, Option.getD_some, label_put hr, Option.bind_some, pur_eq, show e.1 = ((e.1.toNat : Nat) : Int) by omega, wu64 (by omega),
      octs_put (by simp only [List.length_append]; omega) (by omega), Option.bind_some, app_ok (by rw [limv]; simp only [List.length_append]; omega), Option.bind_some, pur_eq, wrap64 (by omega) (by omega), List.take_add_one, he]
    simp [encE]) (by
    rintro s rfl
    refine ⟨_, ?_, rfl⟩
    unfold index_Index_Bytes.b2
    dsimp only
    rw [decide_eq_false (by rw [List.length_map]; omega), cond_false, List.take_length]
    rfl) (vint x.given.toNat ++ vint A.length) (by simp)
  rw [e1]
  rfl

end Go.Proofs.YtikdgllagijidaaGreat
