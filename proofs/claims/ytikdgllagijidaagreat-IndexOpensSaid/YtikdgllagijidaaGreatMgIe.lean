/- Plain laws of the index: numbers, texts, labels as bytes. -/
import Derived.Test.YtikdgllagijidaaGreatMgId
namespace Go.Proofs.YtikdgllagijidaaGreat
open Go Go.Mg
set_option linter.unusedVariables false
set_option linter.unusedSimpArgs false

/-- A number as bytes, seven bits each. -/
def vint (n : Nat) : List Int := if n < 128 then [(n : Int)] else ((n % 128 + 128 : Nat) : Int) :: vint (n / 128)
termination_by n
decreasing_by omega
theorem vint_low {n : Nat} (h : n < 128) : vint n = [(n : Int)] := by rw [vint, if_pos h]
theorem vint_high {n : Nat} (h : ¬ n < 128) : vint n = ((n % 128 + 128 : Nat) : Int) :: vint (n / 128) := by rw [vint, if_neg h]
theorem vint_len2 {n : Nat} (h : n < 16384) : (vint n).length ≤ 2 ∧ 1 ≤ (vint n).length := by
  by_cases h1 : n < 128
  · rw [vint_low h1]; simp
  · rw [vint_high h1, vint_low (by omega)]; simp
theorem vint_len {n : Nat} (h : n < 2 ^ 64) : (vint n).length ≤ 10 ∧ 1 ≤ (vint n).length := by
  have H : ∀ k n : Nat, n < 128 ^ (k + 1) → (vint n).length ≤ k + 1 ∧ 1 ≤ (vint n).length := by
    intro k
    induction k with
    | zero => intro n h; rw [vint_low (by simpa using h)]; simp
    | succ k ih =>
      intro n h
      by_cases h1 : n < 128
      · rw [vint_low h1]; simp
      · rw [vint_high h1]
        have := ih (n / 128) (Nat.div_lt_of_lt_mul (by rw [Nat.mul_comm]; exact h))
        simp
        omega
  exact H 9 n (Nat.lt_of_lt_of_le h (by decide))

theorem or128 (n : Nat) : ior .u8 (IntKind.u8.wrap (n : Int)) 128 = ((n % 128 + 128 : Nat) : Int) := by
  have hw : IntKind.u8.wrap (n : Int) = ((n % 256 : Nat) : Int) := by
    simp [IntKind.wrap, IntKind.signed, IntKind.bits]
  rw [hw]
  have H : ∀ m : Nat, m < 256 → ior .u8 (m : Int) 128 = ((m % 128 + 128 : Nat) : Int) := by
    intro m hm
    have lo : ∀ k : Nat, k < 128 → 128 ||| k = 128 + k := fun k hk => by
      have := Nat.two_pow_add_eq_or_of_lt (i := 7) (b := k) hk 1
      simpa using this.symm
    have hor : m ||| 128 = m % 128 + 128 := by
      by_cases h : m < 128
      · rw [Nat.or_comm, lo m h]; omega
      · have h2 : m = 128 ||| (m - 128) := by rw [lo _ (by omega)]; omega
        rw [h2, Nat.or_comm (128 ||| (m - 128)) 128, ← Nat.or_assoc, Nat.or_self, lo _ (by omega)]
        omega
    unfold ior
    rw [BitVec.toNat_or, BitVec.toNat_ofInt, BitVec.toNat_ofInt]
    simp only [IntKind.bits]
    rw [show ((m : Int) % ((2 ^ 8 : Nat) : Int)).toNat = m by omega, show ((128 : Int) % ((2 ^ 8 : Nat) : Int)).toNat = 128 by decide, hor]
    simp [IntKind.wrap, IntKind.signed, IntKind.bits]
    omega
  rw [H _ (Nat.mod_lt _ (by decide))]
  congr 2
  omega
theorem u8_low {n : Nat} (h : n < 256) : IntKind.u8.wrap (n : Int) = (n : Int) := by
  simp [IntKind.wrap, IntKind.signed, IntKind.bits]
  omega
theorem shr7 (n : Nat) : ishr .u64 (n : Int) 7 = ((n / 128 : Nat) : Int) := by
  unfold ishr
  rw [show min (7 : Int).toNat (IntKind.u64.bits) = 7 from rfl, show ((2 : Int) ^ 7) = 128 from rfl, Int.fdiv_eq_ediv_of_nonneg _ (by decide)]
  omega

theorem put_loop : ∀ (n : Nat) (out : List Int), n < 2 ^ 64 → out.length + (vint n).length < 1000000 → ∃ (m : Nat) (o : List Int), m < 128 ∧ iter (fun s : Int × (List Int) => octs_Put.b2 s.1 s.2) ((n : Int), out) = some ((m : Int), o) ∧ o ++ [(m : Int)] = out ++ vint n := by
  intro n
  induction n using Nat.strongRecOn with
  | _ n ih =>
    intro out hn hl
    by_cases h : n < 128
    · refine ⟨n, out, h, iter_end ?_, by rw [vint_low h]⟩
      unfold octs_Put.b2
      dsimp only
      rw [decide_eq_false (by omega)]; rfl
    · rw [vint_high h] at hl
      simp only [List.length_cons] at hl
      obtain ⟨m, o, h1, h2, h3⟩ := ih (n / 128) (by omega) (out ++ [((n % 128 + 128 : Nat) : Int)]) (by omega) (by simp; omega)
      refine ⟨m, o, h1, ?_, by rw [h3, vint_high h]; simp⟩
      rw [← h2]
      refine iter_next ?_
      unfold octs_Put.b2
      dsimp only
      rw [decide_eq_true (by omega), cond_true, pur_eq, pur_eq, or128, app_ok (by rw [limv]; simp; omega), Option.bind_some, pur_eq, shr7]
theorem octs_put {a : List Int} {n : Nat} (ha : a.length < 900000) (hn : n < 2 ^ 64) : octs_Put a (n : Int) = some (a ++ vint n) := by
  have hv := vint_len hn
  unfold octs_Put room_
  rw [pur_eq, wrap64 (by omega) (by omega), if_pos ⟨by omega, by rw [limv]; omega, by rw [limv]; omega⟩, Option.bind_some, app_ok (by rw [limv]; simp; omega), Option.bind_some, List.nil_append]
  obtain ⟨m, o, h1, h2, h3⟩ := put_loop n a hn (by omega)
  have hlen := congrArg List.length h3
  simp only [List.length_append, List.length_singleton] at hlen
  rw [h2]
  simp only [Option.bind_some, pur_eq]
  rw [u8_low (by omega), app_ok (by rw [limv]; simp; omega), h3]
  rfl

theorem wu64 {n : Nat} (h : n < 2 ^ 64) : IntKind.u64.wrap (n : Int) = (n : Int) := wrapu64 (by omega) (by omega)

/-- A text, a label, labels as bytes. -/
def encT (s : ByteArray) : List Int := vint s.size ++ strB s
def encX (x : api_Label) : List Int := encT x.Name ++ encT x.Val
def encL (l : List api_Label) : List Int := vint l.length ++ l.flatMap encX
theorem octs_putText {a : List Int} {s : ByteArray} (ha : a.length < 800000) (hs : s.size < 1000) : octs_PutText a s = some (a ++ encT s) := by
  unfold octs_PutText
  have hv := vint_len2 (n := s.size) (by omega)
  rw [pur_eq, wu64 (by omega), octs_put (by omega) (by omega), Option.bind_some, app_ok (by rw [limv, strB_length]; simp; omega)]
  simp [encT]
theorem encT_len {s : ByteArray} (hs : s.size < 1000) : (encT s).length ≤ s.size + 2 := by
  unfold encT
  have := vint_len2 (n := s.size) (by omega)
  rw [List.length_append, strB_length]; omega
theorem encX_len {x : api_Label} (h : okL x = true) : (encX x).length ≤ 84 := by
  have h := okL_size h
  unfold encX
  have h1 := encT_len (s := x.Name) (by omega)
  have h2 := encT_len (s := x.Val) (by omega)
  rw [List.length_append]; omega
theorem encs_len : ∀ {l : List api_Label}, (∀ x ∈ l, okL x = true) → (l.flatMap encX).length ≤ l.length * 84
  | [], _ => by simp
  | x :: l, h => by
    have h1 := encX_len (h x (by simp))
    have h2 := encs_len (l := l) fun y hy => h y (by simp [hy])
    simp only [List.flatMap_cons, List.length_append, List.length_cons]; omega
theorem encL_len {l : List api_Label} (h : rightS l = true) : (encL l).length ≤ 506 := by
  obtain ⟨h1, _, h2, h3⟩ := rightS_iff.1 h
  have h4 := encs_len h1
  have h5 := vint_len2 (n := l.length) (by omega)
  unfold encL
  rw [List.length_append]
  omega

theorem label_put {l : List api_Label} (h : rightS l = true) : label_Put l = some (encL l, 0) := by
  obtain ⟨h1, _, h2, h3⟩ := rightS_iff.1 h
  unfold label_Put
  rw [label_right (by omega), h, Option.bind_some, Bool.not_true, cond_false, pur_eq, wu64 (by omega), octs_put (by simp) (by omega), Option.bind_some, List.nil_append]
  obtain ⟨r, e1, rfl⟩ := iter_inv (step := fun s : (List Int) × Int => label_Put.b2 l s.1 s.2) (fun s i => (s, i)) l (fun s i => s = vint l.length ++ (l.take i).flatMap encX) (fun r => r = encL l) (by
    intro s i x hx hs
    subst hs
    left
    have hi := lt_of_get hx
    have hok := okL_size (h1 x (List.mem_of_getElem? hx))
    have h4 := encs_len (l := l.take i) fun y hy => h1 y (List.mem_of_mem_take hy)
    have h5 := vint_len2 (n := l.length) (by omega)
    have h6 := encT_len (s := x.Name) (by omega)
    have htl : (l.take i).length ≤ 6 := by rw [List.length_take]; omega
    refine ⟨_, ?_, rfl⟩
    unfold label_Put.b2
    dsimp only
    rw [decide_eq_true (by omega), cond_true, at_nat hx, Option.bind_some, pur_eq, octs_putText (by simp only [List.length_append]; omega) (by omega), Option.bind_some,
      octs_putText (by simp only [List.length_append]; omega) (by omega), Option.bind_some, pur_eq, wrap64 (by omega) (by omega), List.take_add_one, hx]
    simp [encX]
    ) (by
    intro s hs
    subst hs
    refine ⟨_, ?_, rfl⟩
    unfold label_Put.b2
    dsimp only
    rw [decide_eq_false (by omega), cond_false, List.take_length]
    rfl) (vint l.length) (by simp)
  rw [e1]
  rfl

/-! ### Bytes as keys -/
/-- Bytes. -/
def Byt (l : List Int) : Prop := ∀ x ∈ l, 0 ≤ x ∧ x ≤ 255
theorem byt_vint (n : Nat) : Byt (vint n) := by
  induction n using Nat.strongRecOn with
  | _ n ih =>
    by_cases h : n < 128
    · rw [vint_low h]; intro x hx; simp at hx; omega
    · rw [vint_high h]
      intro x hx
      rcases List.mem_cons.1 hx with rfl | hx
      · omega
      · exact ih (n / 128) (by omega) x hx
theorem byt_strB (s : ByteArray) : Byt (strB s) := by
  intro x hx
  unfold strB at hx
  obtain ⟨b, _, rfl⟩ := List.mem_map.1 hx
  have := b.toNat_lt
  omega
theorem Byt.append {a b : List Int} (h1 : Byt a) (h2 : Byt b) : Byt (a ++ b) := fun x hx => (List.mem_append.1 hx).elim (h1 x) (h2 x)
theorem byt_encT (s : ByteArray) : Byt (encT s) := (byt_vint _).append (byt_strB _)
theorem byt_encX (x : api_Label) : Byt (encX x) := (byt_encT _).append (byt_encT _)
theorem byt_encs (l : List api_Label) : Byt (l.flatMap encX) := fun x hx => by
  obtain ⟨y, _, hy⟩ := List.mem_flatMap.1 hx
  exact byt_encX y x hy
theorem byt_encL (l : List api_Label) : Byt (encL l) := (byt_vint _).append (byt_encs _)
theorem strB_of {l : List Int} (h : Byt l) : strB (strOf l) = l := by
  unfold strB strOf strOfNums
  simp only [List.map_map]
  refine (List.map_congr_left fun x hx => ?_).trans (List.map_id l)
  have := h x hx
  simp
  omega
theorem strOf_inj {a b : List Int} (ha : Byt a) (hb : Byt b) (h : strOf a = strOf b) : a = b := by
  rw [← strB_of ha, h, strB_of hb]
theorem strOf_strB (s : ByteArray) : strOf (strB s) = s := by
  refine ba_ext ?_
  unfold strOf strOfNums strB
  simp only [List.map_map]
  refine (List.map_congr_left fun x hx => ?_).trans (List.map_id _)
  simp
theorem strB_inj {a b : ByteArray} (h : strB a = strB b) : a = b := by rw [← strOf_strB a, h, strOf_strB]
theorem encT_inj {a b : ByteArray} {r s : List Int} (ha : a.size < 128) (hb : b.size < 128) (h : encT a ++ r = encT b ++ s) : a = b ∧ r = s := by
  unfold encT at h
  rw [vint_low ha, vint_low hb] at h
  simp only [List.cons_append, List.nil_append, List.cons.injEq] at h
  obtain ⟨h1, h2⟩ := h
  have hl : (strB a).length = (strB b).length := by rw [strB_length, strB_length]; omega
  obtain ⟨h3, h4⟩ := List.append_inj h2 hl
  exact ⟨strB_inj h3, h4⟩
theorem encX_inj {a b : api_Label} {r s : List Int} (ha : okL a = true) (hb : okL b = true) (h : encX a ++ r = encX b ++ s) : a = b ∧ r = s := by
  have h1 := okL_size ha
  have h2 := okL_size hb
  unfold encX at h
  rw [List.append_assoc, List.append_assoc] at h
  obtain ⟨h3, h⟩ := encT_inj (by omega) (by omega) h
  obtain ⟨h4, h⟩ := encT_inj (by omega) (by omega) h
  cases a; cases b
  simp_all
theorem encs_inj : ∀ {a b : List api_Label} {r s : List Int}, (∀ x ∈ a, okL x = true) → (∀ x ∈ b, okL x = true) → a.length = b.length → a.flatMap encX ++ r = b.flatMap encX ++ s → a = b ∧ r = s
  | [], [], _, _, _, _, _, h => ⟨rfl, by simpa using h⟩
  | [], _ :: _, _, _, _, _, hl, _ => by simp at hl
  | _ :: _, [], _, _, _, _, hl, _ => by simp at hl
  | x :: a, y :: b, r, s, ha, hb, hl, h => by
    simp only [List.flatMap_cons, List.append_assoc] at h
    obtain ⟨h1, h⟩ := encX_inj (ha x (by simp)) (hb y (by simp)) h
    obtain ⟨h2, h⟩ := encs_inj (fun z hz => ha z (by simp [hz])) (fun z hz => hb z (by simp [hz])) (by simpa using hl) h
    exact ⟨by rw [h1, h2], h⟩
theorem encL_inj {a b : List api_Label} {r s : List Int} (ha : rightS a = true) (hb : rightS b = true) (h : encL a ++ r = encL b ++ s) : a = b ∧ r = s := by
  obtain ⟨a1, _, _, a2⟩ := rightS_iff.1 ha
  obtain ⟨b1, _, _, b2⟩ := rightS_iff.1 hb
  unfold encL at h
  rw [vint_low (by omega), vint_low (by omega)] at h
  simp only [List.cons_append, List.nil_append, List.cons.injEq, List.append_assoc] at h
  exact encs_inj a1 b1 (by omega) h.2

/-- Labels' key. -/
def keyS (l : List api_Label) : ByteArray := strOf (encL l)
theorem keyS_inj {a b : List api_Label} (ha : rightS a = true) (hb : rightS b = true) (h : keyS a = keyS b) : a = b :=
  (encL_inj (r := []) (s := []) ha hb (by simpa using strOf_inj (byt_encL _) (byt_encL _) h)).1

theorem index_keyS {l : List api_Label} (hl : l.length < 20) :
    (∃ r, rightS r = true ∧ r.Perm l ∧ index_key l = some (r, keyS r, 0)) ∨ ((∀ m, m.Perm l → rightS m = false) ∧ index_key l = some ([], ByteArray.empty, 50)) := by
  unfold index_key
  rcases label_sort hl with ⟨r, h1, h2, h3⟩ | ⟨h1, h2⟩
  · refine .inl ⟨r, h1, h2, ?_⟩
    rw [h3, Option.bind_some, show ((0 : Int) != 0) = false from rfl, cond_false, label_put h1]
    rfl
  · refine .inr ⟨h1, ?_⟩
    rw [h2]; rfl
theorem index_keyR {l : List api_Label} (h : rightS l = true) : index_key l = some (l, keyS l, 0) := by
  unfold index_key
  rw [label_sort_right h, Option.bind_some, show ((0 : Int) != 0) = false from rfl, cond_false, label_put h]
  rfl
end Go.Proofs.YtikdgllagijidaaGreat
