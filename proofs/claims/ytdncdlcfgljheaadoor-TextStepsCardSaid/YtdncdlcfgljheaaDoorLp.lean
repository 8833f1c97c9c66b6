/- Plain: the lines of a text; what strings.Lines gives, stripped, is the same. No program in sight. -/
import Derived.Lib.IndexLaws
import Derived.Lib.Strings
import Derived.Test.YtdncdlcfgljheaaDoorBs
namespace Go.Proofs.YtdncdlcfgljheaaDoor

/-- a line without the '\r' at its end -/
def endL (l : List UInt8) : List UInt8 := if l.getLast? = some 13 then l.dropLast else l
def linesF : List UInt8 → List UInt8 → List (List UInt8)
  | cur, [] => if cur = [] then [] else [cur]
  | cur, c :: l => if c = 10 then endL cur :: linesF [] l else linesF (cur ++ [c]) l
def rawF : List UInt8 → List UInt8 → List (List UInt8)
  | cur, [] => if cur = [] then [] else [cur]
  | cur, c :: l => if c = 10 then (cur ++ [10]) :: rawF [] l else rawF (cur ++ [c]) l
def linesL (s : ByteArray) : List (List UInt8) := linesF [] s.data.toList
def linesB (s : ByteArray) : List ByteArray := (linesL s).map fun l => ⟨l.toArray⟩
def rawB (s : ByteArray) : List ByteArray := (rawF [] s.data.toList).map fun l => ⟨l.toArray⟩

theorem last_suffix (l : List UInt8) (c : UInt8) : Lib.hasSuffix l [c] = true ↔ l.getLast? = some c := by
  unfold Lib.hasSuffix
  rw [List.isSuffixOf_iff_suffix]
  constructor
  · rintro ⟨t, rfl⟩; simp
  · intro h
    rcases List.eq_nil_or_concat l with rfl | ⟨t, x, rfl⟩
    · simp at h
    · simp at h
      subst h
      exact ⟨t, by simp⟩
theorem trim_one (l : List UInt8) (c : UInt8) : Lib.trimSuffix l [c] = if l.getLast? = some c then l.dropLast else l := by
  unfold Lib.trimSuffix
  by_cases h : l.getLast? = some c
  · rw [if_pos ((last_suffix l c).2 h), if_pos h, List.dropLast_eq_take]
    rfl
  · rw [if_neg (fun e => h ((last_suffix l c).1 e)), if_neg h]
/-- a line of strings.Lines without its end -/
def stripL (x : List UInt8) : List UInt8 := if Lib.hasSuffix x [10] = true then Lib.trimSuffix (Lib.trimSuffix x [10]) [13] else Lib.trimSuffix x [10]
theorem stripL_end (cur : List UInt8) : stripL (cur ++ [10]) = endL cur := by
  unfold stripL
  rw [if_pos ((last_suffix _ _).2 (by simp)), trim_one (cur ++ [10]), if_pos (by simp), List.dropLast_concat, trim_one]
  rfl
theorem stripL_rest (cur : List UInt8) (h : 10 ∉ cur) : stripL cur = cur := by
  have hl : cur.getLast? ≠ some 10 := fun e => h (List.mem_of_getLast? e)
  unfold stripL
  rw [if_neg (fun e => hl ((last_suffix _ _).1 e)), trim_one, if_neg hl]
theorem strip_raw : ∀ (l cur : List UInt8), 10 ∉ cur → (rawF cur l).map stripL = linesF cur l
  | [], cur, h => by
    unfold rawF linesF
    split
    · rfl
    · rw [List.map_cons, List.map_nil, stripL_rest cur h]
  | c :: l, cur, h => by
    unfold rawF linesF
    split
    · rw [List.map_cons, stripL_end, strip_raw l [] (by simp)]
    · rename_i hc
      exact strip_raw l (cur ++ [c]) (by simp [h, Ne.symm hc])
def stripB (x : ByteArray) : ByteArray := ⟨(stripL x.data.toList).toArray⟩
theorem lines_raw (s : ByteArray) : (rawB s).map stripB = linesB s := by
  unfold rawB linesB linesL
  rw [← strip_raw _ [] (by simp), List.map_map, List.map_map]
  apply List.map_congr_left
  intro l _
  simp [stripB]

theorem rawF_cut : ∀ (k : Nat) (l cur : List UInt8), l[k]? = some 10 → (∀ j, j < k → l[j]? ≠ some 10) → rawF cur l = (cur ++ l.take (k + 1)) :: rawF [] (l.drop (k + 1))
  | k, [], cur, h, _ => by simp at h
  | 0, c :: l, cur, h, _ => by
    simp at h
    subst h
    rw [rawF, if_pos rfl]
    simp
  | k + 1, c :: l, cur, h, h2 => by
    have hc : c ≠ 10 := fun e => h2 0 (by omega) (by simp [e])
    rw [rawF, if_neg hc, rawF_cut k l (cur ++ [c]) (by simpa using h) (fun j hj => by have := h2 (j + 1) (by omega); simpa using this)]
    simp
theorem rawF_none : ∀ (l cur : List UInt8), (∀ k : Nat, l[k]? ≠ some (10 : UInt8)) → rawF cur l = if cur ++ l = [] then [] else [cur ++ l]
  | [], cur, _ => by simp [rawF]
  | c :: l, cur, h => by
    have hc : c ≠ 10 := fun e => h 0 (by simp [e])
    rw [rawF, if_neg hc, rawF_none l (cur ++ [c]) (fun k => by have := h (k + 1); simpa using this)]
    simp

theorem bytes_eta (s : ByteArray) : (⟨s.data.toList.toArray⟩ : ByteArray) = s := by simp
theorem rawB_cut {s : ByteArray} {k : Nat} (h : Lib.indexByte s.data.toList 10 = (k : Int)) : k < s.size ∧ rawB s = s.extract 0 (k + 1) :: rawB (s.extract (k + 1) s.size) := by
  obtain ⟨h1, h2⟩ := Lib.indexByte_some h
  have hk : k < s.data.toList.length := (List.getElem?_eq_some_iff.1 h1).1
  have hk' : k < s.size := by simpa using hk
  refine ⟨hk', ?_⟩
  have e1 : (s.extract 0 (k + 1)) = ⟨(s.data.toList.take (k + 1)).toArray⟩ := by
    apply ByteArray.ext
    apply Array.ext'
    rw [ByteArray.data_extract, Array.toList_extract, List.extract_eq_take_drop]
    simp
  have e2 : (s.extract (k + 1) s.size).data.toList = s.data.toList.drop (k + 1) := by
    rw [ByteArray.data_extract, Array.toList_extract, List.extract_eq_take_drop]
    have : s.size = s.data.toList.length := by rw [Array.length_toList]; rfl
    rw [this, List.take_of_length_le (by simp)]
  unfold rawB
  rw [rawF_cut k _ [] h1 h2, List.map_cons, List.nil_append, e1, e2]
theorem rawB_none {s : ByteArray} (h : Lib.indexByte s.data.toList 10 = -1) (h0 : 0 < s.size) : rawB s = [s] := by
  have h1 := Lib.indexByte_none h
  have hne : s.data.toList ≠ [] := fun e => by
    have h2 : s.size = s.data.toList.length := by rw [Array.length_toList]; rfl
    rw [e, List.length_nil] at h2
    omega
  unfold rawB
  rw [rawF_none _ [] h1, List.nil_append, if_neg hne]
  simp
theorem rawB_empty {s : ByteArray} (h : s.size = 0) : rawB s = [] := by
  have e : s.data.toList = [] := List.eq_nil_of_length_eq_zero (by rw [Array.length_toList]; exact h)
  unfold rawB
  rw [e]
  rfl

end Go.Proofs.YtdncdlcfgljheaaDoor
