/- Plain: the tokens of a text, by bytes; what strings.FieldsFunc makes by code points is the same. No program in sight. -/
import Derived.Lib.DecodeN
import Derived.Lib.MapLaws
import Derived.Lib.SpaceUEq
import Derived.Lib.FieldsP
import Derived.Lib.RuneCount
import Derived.Test.YtdncdlcfgljheaaDoorFo
namespace Go.Proofs.YtdncdlcfgljheaaDoor
open Go.Lib

/-- bytes of tokens -/
def inTok (c : Nat) : Bool := decide ((48 ≤ c ∧ c ≤ 57) ∨ (97 ≤ c ∧ c ≤ 122) ∨ 128 ≤ c)
def stepT (t : Nat → Nat) (i : Nat) (x : Nat × List (Nat × Nat)) : Nat × List (Nat × Nat) := if inTok (t i) then x else (i + 1, if x.1 < i then x.2 ++ [(x.1, i)] else x.2)
def runT (t : Nat → Nat) : Nat → Nat × List (Nat × Nat)
  | 0 => (0, [])
  | i + 1 => stepT t i (runT t i)
/-- the bytes of a text with a space behind -/
def byteS (s : ByteArray) (j : Nat) : Nat := if j < s.size then byteN s j else 32
def tokSpans (s : ByteArray) : List (Nat × Nat) := (runT (byteS s) (s.size + 1)).2
/-- the pieces of a text that are tokens -/
def toksB (s : ByteArray) : List ByteArray := (tokSpans s).map fun x => s.extract x.1 x.2

theorem get_byteN (s : ByteArray) {j : Nat} (h : j < s.size) : (s.get! j).toNat = byteN s j := by
  have h1 : j < s.data.toList.length := by simpa using h
  have h2 : j < s.data.size := h
  simp [byteN, ByteArray.get!, List.getD, List.getElem?_eq_getElem h1]
  rw [getElem!_pos s.data j h2]

theorem decode_tok (s : ByteArray) {pos : Nat} (h : pos < s.size) : pos + (Utf8.decode s pos).2 ≤ s.size ∧ (byteN s pos < 128 → (Utf8.decode s pos) = (byteN s pos, 1)) ∧
    (128 ≤ byteN s pos → 128 ≤ (Utf8.decode s pos).1 ∧ ∀ j, pos ≤ j → j < pos + (Utf8.decode s pos).2 → 128 ≤ byteN s j) := by
  rw [decode_at]
  have hc := decodeN_conts (s.size - pos) (s.get! pos).toNat (s.get! (pos + 1)).toNat (s.get! (pos + 2)).toNat (s.get! (pos + 3)).toNat
  have hn := decodeN_le_n' (s.size - pos) (s.get! pos).toNat (s.get! (pos + 1)).toNat (s.get! (pos + 2)).toNat (s.get! (pos + 3)).toNat (by omega)
  have hsh := decodeN_shape (s.size - pos) (s.get! pos).toNat (s.get! (pos + 1)).toNat (s.get! (pos + 2)).toNat (s.get! (pos + 3)).toNat
  have ha : ∀ n b0 b1 b2 b3, b0 < 128 → decodeN n b0 b1 b2 b3 = (b0, 1) := fun n b0 b1 b2 b3 hb => by unfold decodeN; rw [if_pos hb]
  have ha' := ha (s.size - pos) (s.get! pos).toNat (s.get! (pos + 1)).toNat (s.get! (pos + 2)).toNat (s.get! (pos + 3)).toNat
  rw [get_byteN s h] at hc hn hsh ha' ⊢
  have e1 : pos + 1 < s.size → (s.get! (pos + 1)).toNat = byteN s (pos + 1) := fun h => get_byteN s h
  have e2 : pos + 2 < s.size → (s.get! (pos + 2)).toNat = byteN s (pos + 2) := fun h => get_byteN s h
  have e3 : pos + 3 < s.size → (s.get! (pos + 3)).toNat = byteN s (pos + 3) := fun h => get_byteN s h
  generalize (s.get! (pos + 1)).toNat = b1 at *
  generalize (s.get! (pos + 2)).toNat = b2 at *
  generalize (s.get! (pos + 3)).toNat = b3 at *
  have hb0 : byteN s pos = byteN s pos := rfl
  generalize hB : byteN s pos = b0 at *
  generalize hD : decodeN (s.size - pos) b0 b1 b2 b3 = D at *
  obtain ⟨r, wd⟩ := D
  simp only at hc hn ⊢
  refine ⟨by omega, fun hlt => ha' hlt, fun hge => ⟨?_, fun j hj hj2 => ?_⟩⟩
  · rcases hsh with ⟨h1, _⟩ | ⟨h1, h2, h3, h4, h5⟩ | ⟨h1, h2, h3, h4, h5, h6, h7⟩ | ⟨h1, h2, h3, h4, h5, h6, h7, h8⟩ | h5
    · omega
    · cases h5; omega
    · cases h7; omega
    · cases h8; omega
    · cases h5; omega
  · obtain ⟨c1, c2, c3, c4⟩ := hc
    rcases Nat.lt_or_ge pos j with hlt | hge'
    · have hk : j = pos + 1 ∨ j = pos + 2 ∨ j = pos + 3 := by omega
      rcases hk with rfl | rfl | rfl
      · have := c1 (by omega)
        rw [← e1 (by omega)]
        omega
      · have := c2 (by omega)
        rw [← e2 (by omega)]
        omega
      · have := c3 (by omega)
        rw [← e3 (by omega)]
        omega
    · obtain rfl : j = pos := by omega
      omega

theorem runT_skip (t : Nat → Nat) (i : Nat) : ∀ n, (∀ j, i ≤ j → j < i + n → inTok (t j) = true) → runT t (i + n) = runT t i
  | 0, _ => rfl
  | n + 1, h => by
    rw [show i + (n + 1) = (i + n) + 1 by omega]
    show stepT t (i + n) (runT t (i + n)) = _
    rw [runT_skip t i n (fun j h1 h2 => h j h1 (by omega))]
    unfold stepT
    rw [if_pos (h _ (by omega) (by omega))]

theorem inTok_high {c : Nat} (h : 128 ≤ c) : inTok c = true := decide_eq_true (.inr (.inr h))

theorem spans_eq (s : ByteArray) : ∀ (f pos a : Nat) (st : Option Nat) (acc : List (Nat × Nat)), pos ≤ s.size → s.size ≤ pos + f → runT (byteS s) pos = (a, acc) → ((st = none ∧ a = pos) ∨ (st = some a ∧ a < pos)) →
    closeSpans s (spansFromP (fun r => !inTok r) s f pos st acc) = tokSpans s := by
  intro f
  induction f with
  | zero =>
    intro pos a st acc h1 h2 hr hst
    obtain rfl : pos = s.size := by omega
    have hu : tokSpans s = if a < s.size then acc ++ [(a, s.size)] else acc := by
      unfold tokSpans
      show (stepT (byteS s) s.size (runT (byteS s) s.size)).2 = _
      rw [hr]
      unfold stepT byteS
      rw [if_neg (by simp [inTok])]
    rw [hu]
    rcases hst with ⟨rfl, rfl⟩ | ⟨rfl, h⟩
    · simp [spansFromP, closeSpans]
    · simp [spansFromP, closeSpans, h]
  | succ f ih =>
    intro pos a st acc h1 h2 hr hst
    by_cases hp : pos < s.size
    · obtain ⟨hw, hA, hH⟩ := decode_tok s hp
      have hwp := decode_width_pos s pos hp
      unfold spansFromP
      rw [if_pos hp]
      by_cases ht : inTok (Utf8.decode s pos).1 = true
      · rw [if_neg (by simp [ht])]
        have hall : ∀ j, pos ≤ j → j < pos + (Utf8.decode s pos).2 → inTok (byteS s j) = true := by
          intro j hj hj2
          unfold byteS
          rw [if_pos (by omega)]
          rcases Nat.lt_or_ge (byteN s pos) 128 with hb | hb
          · have e := hA hb
            rw [e] at hj2 ht
            simp only at hj2 ht
            obtain rfl : j = pos := by omega
            exact ht
          · exact inTok_high ((hH hb).2 j hj hj2)
        have hr2 := runT_skip (byteS s) pos _ hall
        rcases hst with ⟨rfl, rfl⟩ | ⟨rfl, h⟩
        · exact ih _ a (some a) acc hw (by omega) (hr2.trans hr) (.inr ⟨rfl, by omega⟩)
        · exact ih _ a (some a) acc hw (by omega) (hr2.trans hr) (.inr ⟨rfl, by omega⟩)
      · have ht' : inTok (Utf8.decode s pos).1 = false := by simpa using ht
        rw [if_pos (by simp [ht'])]
        have hb : byteN s pos < 128 := by
          rcases Nat.lt_or_ge (byteN s pos) 128 with hb | hb
          · exact hb
          · exact absurd (inTok_high (hH hb).1) ht
        have e := hA hb
        rw [e] at ht' ⊢
        simp only at ht' ⊢
        have hr2 : runT (byteS s) (pos + 1) = (pos + 1, if a < pos then acc ++ [(a, pos)] else acc) := by
          show stepT (byteS s) pos (runT (byteS s) pos) = _
          rw [hr]
          unfold stepT byteS
          rw [if_pos hp, if_neg (by simp [ht'])]
        rcases hst with ⟨rfl, rfl⟩ | ⟨rfl, h⟩
        · rw [if_neg (by omega)] at hr2
          exact ih _ _ none acc (by omega) (by omega) hr2 (.inl ⟨rfl, rfl⟩)
        · rw [if_pos h] at hr2
          exact ih _ _ none _ (by omega) (by omega) hr2 (.inl ⟨rfl, rfl⟩)
    · rw [spansFromP_end _ _ _ _ _ _ hp]
      obtain rfl : pos = s.size := by omega
      have := ih s.size a st acc h1 (by omega) hr hst
      rwa [spansFromP_end _ _ _ _ _ _ hp] at this

/-- what strings.FieldsFunc gives -/
theorem fields_eq (s : ByteArray) : goFieldsP (fun r => !inTok r) s = toksB s := by
  unfold goFieldsP spansOfP toksB
  rw [spans_eq s s.size 0 0 none [] (by omega) (by omega) rfl (.inl ⟨rfl, rfl⟩)]

end Go.Proofs.YtdncdlcfgljheaaDoor
