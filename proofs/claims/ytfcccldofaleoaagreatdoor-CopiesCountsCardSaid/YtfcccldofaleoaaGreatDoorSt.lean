/- Plain: texts in order, sets of texts, insertion. No program in sight. -/
import Derived.Test.YtfcccldofaleoaaGreatDoorBs
import Derived.Lib.Strings
namespace Go.Proofs.YtfcccldofaleoaaGreatDoor
open Go.RowKit

/-- the order of texts -/
def sl (a b : ByteArray) : Bool := Op.bytesLess a.toList b.toList

theorem bl_irrefl : ∀ x : List UInt8, Op.bytesLess x x = false
  | [] => rfl
  | a :: x => by
    rw [Op.bytesLess, bl_irrefl x]
    have : ¬ a < a := UInt8.lt_irrefl a
    simp [this]
theorem bl_trans : ∀ x y z : List UInt8, Op.bytesLess x y = true → Op.bytesLess y z = true → Op.bytesLess x z = true
  | _, [], _, h, _ => by cases ‹List UInt8› <;> simp [Op.bytesLess] at h
  | _, _ :: _, [], _, h => by simp [Op.bytesLess] at h
  | [], _ :: _, _ :: _, _, _ => rfl
  | a :: x, b :: y, c :: z, h1, h2 => by
    have ih := bl_trans x y z
    simp only [Op.bytesLess, Bool.or_eq_true, Bool.and_eq_true, decide_eq_true_eq, beq_iff_eq] at *
    rcases h1 with h1 | ⟨rfl, h1⟩
    · rcases h2 with h2 | ⟨rfl, h2⟩
      · exact .inl (UInt8.lt_trans h1 h2)
      · exact .inl h1
    · rcases h2 with h2 | ⟨rfl, h2⟩
      · exact .inl h2
      · exact .inr ⟨rfl, ih h1 h2⟩
theorem bl_total : ∀ x y : List UInt8, Op.bytesLess x y = true ∨ x = y ∨ Op.bytesLess y x = true
  | [], [] => .inr (.inl rfl)
  | [], _ :: _ => .inl rfl
  | _ :: _, [] => .inr (.inr rfl)
  | a :: x, b :: y => by
    have ih := bl_total x y
    simp only [Op.bytesLess, Bool.or_eq_true, Bool.and_eq_true, decide_eq_true_eq, beq_iff_eq]
    by_cases h : a < b
    · exact .inl (.inl h)
    · by_cases h2 : b < a
      · exact .inr (.inr (.inl h2))
      · have e : a = b := by
          apply UInt8.toNat_inj.1
          have h3 : ¬ a.toNat < b.toNat := fun hh => h (UInt8.lt_iff_toNat_lt.2 hh)
          have h4 : ¬ b.toNat < a.toNat := fun hh => h2 (UInt8.lt_iff_toNat_lt.2 hh)
          omega
        subst e
        rcases ih with ih | rfl | ih
        · exact .inl (.inr ⟨rfl, ih⟩)
        · exact .inr (.inl rfl)
        · exact .inr (.inr (.inr ⟨rfl, ih⟩))
theorem bytes_ext {a b : ByteArray} (h : a.toList = b.toList) : a = b := by
  have h1 : a.data.toList = b.data.toList := by rw [← Lib.toList_data, ← Lib.toList_data]; exact h
  cases a; cases b
  simp only [ByteArray.mk.injEq]
  exact Array.toList_inj.1 h1

theorem sl_irrefl (a : ByteArray) : sl a a = false := bl_irrefl _
theorem sl_trans {a b c : ByteArray} (h : sl a b = true) (h' : sl b c = true) : sl a c = true := bl_trans _ _ _ h h'
theorem sl_total (a b : ByteArray) : sl a b = true ∨ a = b ∨ sl b a = true := by
  rcases bl_total a.toList b.toList with h | h | h
  · exact .inl h
  · exact .inr (.inl (bytes_ext h))
  · exact .inr (.inr h)

def isSet : List ByteArray → Bool
  | a :: b :: l => sl a b && isSet (b :: l)
  | _ => true

theorem isSet_iff : ∀ xs : List ByteArray, isSet xs = true ↔ ∀ i, i + 1 < xs.length → sl (xs.getD i ⟨#[]⟩) (xs.getD (i + 1) ⟨#[]⟩) = true
  | [] => by simp [isSet]
  | [a] => by simp [isSet]
  | a :: b :: l => by
    rw [isSet, Bool.and_eq_true, isSet_iff (b :: l)]
    constructor
    · rintro ⟨h1, h2⟩ i hi
      cases i with
      | zero => exact h1
      | succ i => exact h2 i (by simp at hi ⊢; omega)
    · intro h
      exact ⟨h 0 (by simp), fun i hi => h (i + 1) (by simp at hi ⊢; omega)⟩
theorem isSet_false {xs : List ByteArray} {i : Nat} (hi : i + 1 < xs.length) (h : sl (xs.getD i ⟨#[]⟩) (xs.getD (i + 1) ⟨#[]⟩) = false) : isSet xs = false := by
  cases e : isSet xs with
  | false => rfl
  | true => rw [(isSet_iff xs).1 e i hi] at h; cases h

/-! ### Insertion -/
/-- how many texts of a list come before another one, from its beginning -/
def before (s : ByteArray) : List ByteArray → Nat
  | [] => 0
  | a :: l => if sl a s then before s l + 1 else 0
/-- a text put into a list in order -/
def put1 (xs : List ByteArray) (s : ByteArray) : List ByteArray :=
  let k := before s xs
  if k = xs.length ∨ xs.getD k ⟨#[]⟩ ≠ s then xs.take k ++ s :: xs.drop k else xs
/-- the set of a list -/
def setOfL (l : List ByteArray) : List ByteArray := l.foldl put1 []

theorem before_le (s : ByteArray) : ∀ l, before s l ≤ l.length
  | [] => by simp [before]
  | a :: l => by
    have := before_le s l
    unfold before
    split <;> simp <;> omega
theorem before_lt (s : ByteArray) : ∀ l i, i < before s l → sl (l.getD i ⟨#[]⟩) s = true
  | [], i, h => by simp [before] at h
  | a :: l, i, h => by
    unfold before at h
    split at h
    · rename_i ha
      cases i with
      | zero => simpa using ha
      | succ i => simpa using before_lt s l i (by omega)
    · omega
theorem before_at (s : ByteArray) : ∀ l, before s l < l.length → sl (l.getD (before s l) ⟨#[]⟩) s = false
  | [], h => by simp at h
  | a :: l, h => by
    unfold before at h ⊢
    split
    · rename_i ha
      rw [if_pos ha] at h
      simpa using before_at s l (by simpa using h)
    · rename_i ha
      simpa using ha
/-- the place is where the test says no -/
theorem before_eq {s : ByteArray} {l : List ByteArray} {k : Nat} (hk : k ≤ l.length) (h1 : ∀ i, i < k → sl (l.getD i ⟨#[]⟩) s = true) (h2 : k < l.length → sl (l.getD k ⟨#[]⟩) s = false) : before s l = k := by
  have hb := before_le s l
  rcases Nat.lt_trichotomy (before s l) k with h | h | h
  · have h3 := before_at s l (by omega)
    rw [h1 _ h] at h3; cases h3
  · exact h
  · have h3 := before_lt s l k h
    rw [h2 (by omega)] at h3; cases h3

theorem put1_length (xs : List ByteArray) (s : ByteArray) : (put1 xs s).length ≤ xs.length + 1 := by
  have := before_le s xs
  unfold put1
  simp only
  split
  · simp; omega
  · omega
theorem put1_mem {xs : List ByteArray} {s x : ByteArray} (h : x ∈ put1 xs s) : x = s ∨ x ∈ xs := by
  unfold put1 at h
  simp only at h
  split at h
  · rw [List.mem_append, List.mem_cons] at h
    rcases h with h | rfl | h
    · exact .inr (List.mem_of_mem_take h)
    · exact .inl rfl
    · exact .inr (List.mem_of_mem_drop h)
  · exact .inr h

/-- strictly ascending -/
def Asc (xs : List ByteArray) : Prop := xs.Pairwise fun a b => sl a b = true
theorem Asc.isSet : ∀ {xs : List ByteArray}, Asc xs → isSet xs = true
  | [], _ => rfl
  | [_], _ => rfl
  | a :: b :: l, h => by
    have h' := List.pairwise_cons.1 h
    rw [Go.Proofs.YtfcccldofaleoaaGreatDoor.isSet, Bool.and_eq_true]
    exact ⟨h'.1 b (by simp), Asc.isSet h'.2⟩
theorem Asc.of_isSet : ∀ {xs : List ByteArray}, Go.Proofs.YtfcccldofaleoaaGreatDoor.isSet xs = true → Asc xs
  | [], _ => List.Pairwise.nil
  | [a], _ => List.pairwise_singleton _ _
  | a :: b :: l, h => by
    rw [Go.Proofs.YtfcccldofaleoaaGreatDoor.isSet, Bool.and_eq_true] at h
    have ih := Asc.of_isSet h.2
    refine List.pairwise_cons.2 ⟨fun c hc => ?_, ih⟩
    rcases List.mem_cons.1 hc with rfl | hc
    · exact h.1
    · exact sl_trans h.1 ((List.pairwise_cons.1 ih).1 c hc)
theorem put1_asc {xs : List ByteArray} {s : ByteArray} (h : Asc xs) : Asc (put1 xs s) := by
  have hb := before_le s xs
  unfold put1
  simp only
  split
  · rename_i hc
    have h1 : Asc (xs.take (before s xs)) := List.Pairwise.sublist (List.take_sublist _ _) h
    have h2 : Asc (xs.drop (before s xs)) := List.Pairwise.sublist (List.drop_sublist _ _) h
    have hlow : ∀ x ∈ xs.take (before s xs), sl x s = true := fun x hx => by
      obtain ⟨i, hi, rfl⟩ := List.mem_iff_getElem.1 hx
      have hi' : i < before s xs := by simp at hi; omega
      have := before_lt s xs i hi'
      rw [List.getElem_take]
      simpa [List.getD, show i < xs.length by omega] using this
    have hhigh : ∀ x ∈ xs.drop (before s xs), sl s x = true := by
      rcases hc with hc | hc
      · intro x hx; rw [hc, List.drop_length] at hx; simp at hx
      · intro x hx
        have hlt : before s xs < xs.length := by
          rcases Nat.lt_or_ge (before s xs) xs.length with h3 | h3
          · exact h3
          · rw [List.drop_eq_nil_of_le h3] at hx; simp at hx
        have hat := before_at s xs hlt
        have hd : xs.drop (before s xs) = xs.getD (before s xs) ⟨#[]⟩ :: xs.drop (before s xs + 1) := by
          rw [List.drop_eq_getElem_cons hlt]; simp [List.getD, hlt]
        rw [hd] at hx h2
        have hs0 : sl s (xs.getD (before s xs) ⟨#[]⟩) = true := by
          rcases sl_total s (xs.getD (before s xs) ⟨#[]⟩) with h4 | h4 | h4
          · exact h4
          · exact absurd h4.symm hc
          · rw [h4] at hat; cases hat
        rcases List.mem_cons.1 hx with rfl | hx
        · exact hs0
        · exact sl_trans hs0 ((List.pairwise_cons.1 h2).1 x hx)
    refine List.pairwise_append.2 ⟨h1, List.pairwise_cons.2 ⟨hhigh, h2⟩, fun x hx y hy => ?_⟩
    rcases List.mem_cons.1 hy with rfl | hy
    · exact hlow x hx
    · exact sl_trans (hlow x hx) (hhigh y hy)
  · exact h

theorem foldl_put1 (l : List ByteArray) : ∀ acc, Asc acc → Asc (l.foldl put1 acc) ∧ (l.foldl put1 acc).length ≤ acc.length + l.length ∧ ∀ x ∈ l.foldl put1 acc, x ∈ acc ∨ x ∈ l := by
  induction l with
  | nil => intro acc h; exact ⟨h, by simp, fun x hx => .inl hx⟩
  | cons a l ih =>
    intro acc h
    obtain ⟨h1, h2, h3⟩ := ih (put1 acc a) (put1_asc h)
    refine ⟨h1, ?_, fun x hx => ?_⟩
    · have := put1_length acc a
      simp only [List.foldl_cons, List.length_cons]
      omega
    · rcases h3 x hx with h4 | h4
      · rcases put1_mem h4 with rfl | h5
        · exact .inr (by simp)
        · exact .inl h5
      · exact .inr (by simp [h4])
theorem setOfL_asc (l : List ByteArray) : Asc (setOfL l) := (foldl_put1 l [] List.Pairwise.nil).1
theorem setOfL_len (l : List ByteArray) : (setOfL l).length ≤ l.length := by
  have := (foldl_put1 l [] List.Pairwise.nil).2.1
  unfold setOfL; simpa using this
theorem setOfL_mem (l : List ByteArray) (x : ByteArray) (h : x ∈ setOfL l) : x ∈ l := by
  rcases (foldl_put1 l [] List.Pairwise.nil).2.2 x h with h | h
  · simp at h
  · exact h

end Go.Proofs.YtfcccldofaleoaaGreatDoor
