/- Plain: the lines of a text, found by a scan with positions. No program in sight. -/
import Derived.Test.YtdncdlcfgljheaaDoorSx
import Derived.Test.YtdncdlcfgljheaaDoorLj
namespace Go.Proofs.YtdncdlcfgljheaaDoor

def linesAt (s : ByteArray) (a k : Nat) : List (List UInt8) := linesF ((s.data.toList.drop a).take (k - a)) (s.data.toList.drop k)
def linesM (s : ByteArray) (a k : Nat) : List ByteArray := (linesAt s a k).map fun l => ⟨l.toArray⟩
theorem lines_start (s : ByteArray) : linesB s = linesM s 0 0 := rfl
theorem seg_snoc (l : List UInt8) {a k : Nat} (ha : a ≤ k) (hk : k < l.length) : (l.drop a).take (k + 1 - a) = (l.drop a).take (k - a) ++ [l[k]] := by
  rw [show k + 1 - a = (k - a) + 1 by omega, List.take_add_one]
  congr 1
  rw [List.getElem?_drop, show a + (k - a) = k by omega, List.getElem?_eq_getElem hk]
  rfl
theorem byteN_get (s : ByteArray) {k : Nat} (hk : k < s.data.toList.length) : byteN s k = (s.data.toList[k]).toNat := by
  unfold byteN
  rw [List.getD, List.getElem?_eq_getElem hk]
  rfl
theorem u8_ne {c : UInt8} {n : Nat} (hn : n < 256) (h : c.toNat ≠ n) : c ≠ UInt8.ofNat n := fun e => h (by rw [e, UInt8.toNat_ofNat']; omega)
theorem u8_eq {c : UInt8} {n : Nat} (h : c.toNat = n) : c = UInt8.ofNat n := by rw [← h]; simp
theorem lines_skip (s : ByteArray) {a k : Nat} (ha : a ≤ k) (hk : k < s.size) (h : byteN s k ≠ 10) : linesM s a k = linesM s a (k + 1) := by
  have hk' : k < s.data.toList.length := by rw [← size_list]; exact hk
  rw [byteN_get s hk'] at h
  have h' : s.data.toList[k] ≠ 10 := u8_ne (n := 10) (by omega) h
  unfold linesM linesAt
  rw [seg_snoc _ ha hk', List.drop_eq_getElem_cons hk', linesF, if_neg h']
theorem lines_cut (s : ByteArray) {a k : Nat} (ha : a ≤ k) (hk : k < s.size) (h : byteN s k = 10) :
    linesM s a k = s.extract a (if a < k ∧ byteN s (k - 1) = 13 then k - 1 else k) :: linesM s (k + 1) (k + 1) := by
  have hk' : k < s.data.toList.length := by rw [← size_list]; exact hk
  rw [byteN_get s hk'] at h
  have h' : s.data.toList[k] = 10 := u8_eq h
  unfold linesM linesAt
  rw [List.drop_eq_getElem_cons hk', linesF, if_pos h', List.map_cons, Nat.sub_self, List.take_zero]
  congr 1
  rw [extract_list]
  congr 2
  unfold endL
  by_cases hak : a < k
  · have hk1 : k - 1 < s.data.toList.length := by omega
    have e := seg_snoc s.data.toList (a := a) (k := k - 1) (by omega) hk1
    rw [show k - 1 + 1 - a = k - a by omega] at e
    rw [e, List.getLast?_append]
    simp only [List.getLast?_singleton, Option.some_or, Option.some.injEq, List.dropLast_concat]
    rw [byteN_get s hk1]
    by_cases hd : (s.data.toList[k - 1]).toNat = 13
    · have hd' : s.data.toList[k - 1] = 13 := u8_eq hd
      rw [if_pos hd', if_pos ⟨hak, hd⟩]
    · have hd' : s.data.toList[k - 1] ≠ 13 := u8_ne (n := 13) (by omega) hd
      have hn : ¬ (a < k ∧ (s.data.toList[k - 1]).toNat = 13) := fun h => hd h.2
      rw [if_neg hd', if_neg hn, ← e]
  · have hn : ¬ (a < k ∧ byteN s (k - 1) = 13) := fun h => hak h.1
    rw [if_neg hn, show k - a = 0 by omega]
    simp
theorem lines_last (s : ByteArray) {a : Nat} (ha : a ≤ s.size) : linesM s a s.size = if a < s.size then [s.extract a s.size] else [] := by
  unfold linesM linesAt
  have hd : s.data.toList.drop s.size = [] := List.drop_of_length_le (by rw [← size_list]; exact Nat.le_refl _)
  rw [hd, linesF]
  by_cases h : a < s.size
  · have h2 := size_list s
    rw [if_pos h, if_neg (by intro e; have := congrArg List.length e; simp at this; omega), List.map_cons, List.map_nil, extract_list]
  · rw [if_neg h, if_pos (by rw [show s.size - a = 0 by omega]; rfl)]
    rfl

end Go.Proofs.YtdncdlcfgljheaaDoor
