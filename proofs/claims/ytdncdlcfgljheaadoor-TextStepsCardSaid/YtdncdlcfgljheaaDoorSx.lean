/- Contract of the reference's Trim. -/
import Derived.Test.YtdncdlcfgljheaaDoorTr2
import Derived.Test.YtdncdlcfgljheaaDoorTx
import Derived.Test.YtdncdlcfgljheaaDoorTv
namespace Go.Proofs.YtdncdlcfgljheaaDoor
open Go.RowKit

theorem trimS_list' (s : ByteArray) : (trimS s).data.toList = Lib.trimB s.data.toList 32 := by simp [trimS]
theorem trimB_head (l : List UInt8) (c : UInt8) : Lib.trimB (c :: l) c = Lib.trimB l c := by
  unfold Lib.trimB Lib.trimLeftB Lib.trimRightB
  rw [List.reverse_cons, List.dropWhile_append]
  split
  · rename_i h
    have h' : l.reverse.dropWhile (· == c) = [] := by simpa using h
    rw [h']
    simp
  · rw [List.reverse_append]
    simp
theorem trimB_last (l : List UInt8) (c : UInt8) : Lib.trimB (l ++ [c]) c = Lib.trimB l c := by
  unfold Lib.trimB Lib.trimLeftB Lib.trimRightB
  rw [List.reverse_append]
  simp
theorem trimB_none (l : List UInt8) (c : UInt8) (h1 : ∀ x xs, l = x :: xs → (x == c) = false) (h2 : ∀ x xs, l.reverse = x :: xs → (x == c) = false) : Lib.trimB l c = l := by
  unfold Lib.trimB Lib.trimLeftB Lib.trimRightB
  rw [dw_self _ h2, List.reverse_reverse, dw_self _ h1]
theorem size_list (s : ByteArray) : s.size = s.data.toList.length := by rw [Array.length_toList]; rfl
theorem byteN_eq (s : ByteArray) (j c : Nat) (hc : c < 256) (h : j < s.size) : byteN s j = c ↔ s.data.toList[j]? = some (UInt8.ofNat c) := by
  have h1 : j < s.data.toList.length := by rw [← size_list]; exact h
  unfold byteN
  rw [List.getD, List.getElem?_eq_getElem h1, Option.getD_some, Option.some.injEq]
  constructor
  · intro e; rw [← e]; simp
  · intro e; rw [e, UInt8.toNat_ofNat']; omega
theorem trim_front (s : ByteArray) (h : 0 < s.size) (h0 : byteN s 0 = 32) : trimS (s.extract 1 s.size) = trimS s := by
  have e := (byteN_eq s 0 32 (by omega) h).1 h0
  apply ba_ext
  rw [trimS_list', trimS_list', extract_list, size_list]
  show Lib.trimB ((List.drop 1 _).take _) 32 = _
  rw [List.take_of_length_le (by rw [List.length_drop]; exact Nat.le_refl _)]
  generalize s.data.toList = l at *
  cases l with
  | nil => cases e
  | cons x xs =>
    simp at e
    subst e
    exact (trimB_head xs 32).symm
theorem trim_back (s : ByteArray) (h : 0 < s.size) (h0 : byteN s (s.size - 1) = 32) : trimS (s.extract 0 (s.size - 1)) = trimS s := by
  have e := (byteN_eq s (s.size - 1) 32 (by omega) (by omega)).1 h0
  apply ba_ext
  rw [trimS_list', trimS_list', extract_list]
  rw [size_list] at e h ⊢
  generalize s.data.toList = l at *
  have hl : l = l.take (l.length - 1) ++ [32] := by
    conv => lhs; rw [← List.take_append_drop (l.length - 1) l]
    congr 1
    rw [List.drop_eq_getElem_cons (by omega)]
    have e2 : l[l.length - 1]? = some l[l.length - 1] := List.getElem?_eq_getElem (by omega)
    rw [e2] at e
    rw [Option.some.inj e, show l.length - 1 + 1 = l.length by omega, List.drop_length]
    rfl
  show Lib.trimB ((List.drop 0 l).take (l.length - 1 - 0)) 32 = _
  rw [List.drop_zero, Nat.sub_zero]
  conv => rhs; rw [hl]
  exact (trimB_last _ 32).symm
theorem trim_fix (s : ByteArray) (h1 : 0 < s.size → byteN s 0 ≠ 32) (h2 : 0 < s.size → byteN s (s.size - 1) ≠ 32) : trimS s = s := by
  apply ba_ext
  rw [trimS_list']
  apply trimB_none
  · intro x xs e
    have hp : 0 < s.size := by rw [size_list, e]; simp
    have := h1 hp
    rw [Ne, byteN_eq s 0 32 (by omega) hp, e] at this
    simp at this
    simpa using this
  · intro x xs e
    have e' : s.data.toList = xs.reverse ++ [x] := by rw [← List.reverse_reverse s.data.toList, e]; simp
    have hp : 0 < s.size := by rw [size_list, e']; simp
    have := h2 hp
    rw [Ne, byteN_eq s _ 32 (by omega) (by omega), size_list, e'] at this
    simp at this
    simpa using this
theorem byteN_extract (s : ByteArray) (b : Nat) (hb : 0 < b) : byteN (s.extract 0 b) 0 = byteN s 0 := by
  unfold byteN
  rw [extract_list]
  simp only [List.drop_zero, Nat.sub_zero]
  congr 1
  rw [List.getD, List.getD]
  show (List.take b s.data.toList)[0]?.getD 0 = _
  rw [List.getElem?_take, if_pos hb]

end Go.Proofs.YtdncdlcfgljheaaDoor
