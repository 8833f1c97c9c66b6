/- Plain: lines that are put together again. No program in sight. -/
import Derived.Test.YtdncdlcfgljheaaDoorLp
import Derived.Test.YtdncdlcfgljheaaDoorFi
namespace Go.Proofs.YtdncdlcfgljheaaDoor

/-- texts, each with an end behind it -/
def joinL (e : List UInt8) (xs : List (List UInt8)) : List UInt8 := xs.flatMap (· ++ e)
theorem joinL_snoc (e : List UInt8) (xs : List (List UInt8)) (x : List UInt8) : joinL e (xs ++ [x]) = joinL e xs ++ x ++ e := by simp [joinL]
def okL (x : List UInt8) : Prop := ∀ c ∈ x, c ≠ 10 ∧ c ≠ 13
theorem okL_last {x : List UInt8} (h : okL x) : x.getLast? ≠ some 13 := fun e => (h 13 (List.mem_of_getLast? e)).2 rfl
theorem endL_ok {x : List UInt8} (h : okL x) : endL x = x := if_neg (okL_last h)
theorem endL_cr (x : List UInt8) : endL (x ++ [13]) = x := by unfold endL; rw [if_pos (by simp)]; simp
theorem linesF_run : ∀ (x cur l : List UInt8), (∀ c ∈ x, c ≠ 10) → linesF cur (x ++ l) = linesF (cur ++ x) l
  | [], cur, l, _ => by simp
  | c :: x, cur, l, h => by
    have hc : c ≠ 10 := h c (by simp)
    rw [List.cons_append, linesF, if_neg hc, linesF_run x (cur ++ [c]) l (fun d hd => h d (by simp [hd]))]
    simp
theorem linesF_lf {x : List UInt8} (h : okL x) (l : List UInt8) : linesF [] (x ++ [10] ++ l) = x :: linesF [] l := by
  rw [List.append_assoc, linesF_run x [] _ (fun c hc => (h c hc).1), List.nil_append, List.singleton_append, linesF, if_pos rfl, endL_ok h]
theorem linesF_crlf {x : List UInt8} (h : okL x) (l : List UInt8) : linesF [] (x ++ [13, 10] ++ l) = x :: linesF [] l := by
  rw [show x ++ [13, 10] ++ l = (x ++ [13]) ++ (10 :: l) by simp, linesF_run (x ++ [13]) [] _ (fun c hc => by
    rcases List.mem_append.1 hc with hc | hc
    · exact (h c hc).1
    · simp at hc; subst hc; decide), List.nil_append, linesF, if_pos rfl, endL_cr]
theorem lines_join (e : List UInt8) (he : e = [10] ∨ e = [13, 10]) : ∀ (xs : List (List UInt8)) (l : List UInt8), (∀ x ∈ xs, okL x) → linesF [] (joinL e xs ++ l) = xs ++ linesF [] l
  | [], l, _ => rfl
  | x :: xs, l, h => by
    have hx := h x (by simp)
    have ih := lines_join e he xs l (fun y hy => h y (by simp [hy]))
    show linesF [] ((x ++ e ++ joinL e xs) ++ l) = _
    rcases he with rfl | rfl
    · rw [List.append_assoc, linesF_lf hx, ih]; rfl
    · rw [List.append_assoc, linesF_crlf hx, ih]; rfl
theorem lines_end {x : List UInt8} (h : ∀ c ∈ x, c ≠ 10) (h0 : x ≠ []) : linesF [] x = [x] := by
  have := linesF_run x [] [] h
  rw [List.append_nil, List.nil_append] at this
  rw [this, linesF, if_neg h0]

/-- the same with texts -/
def joinB (crlf : Bool) (xs : List ByteArray) : ByteArray := ⟨(joinL (if crlf then [13, 10] else [10]) (xs.map fun x => x.data.toList)).toArray⟩
theorem joinB_data (crlf : Bool) (xs : List ByteArray) : (joinB crlf xs).data.toList = joinL (if crlf then [13, 10] else [10]) (xs.map fun x => x.data.toList) := by simp [joinB]
theorem map_eta (xs : List ByteArray) : (xs.map fun x => x.data.toList).map (fun l => (⟨l.toArray⟩ : ByteArray)) = xs := by
  rw [List.map_map]
  conv => rhs; rw [← List.map_id xs]
  apply List.map_congr_left
  intro x _
  simp
theorem linesB_join (crlf : Bool) (xs : List ByteArray) (h : ∀ x ∈ xs, noNl x) : linesB (joinB crlf xs) = xs := by
  unfold linesB linesL
  rw [joinB_data]
  have hl := lines_join (if crlf then [13, 10] else [10]) (by cases crlf <;> simp) (xs.map fun x => x.data.toList) [] (fun x hx => by
    obtain ⟨y, hy, rfl⟩ := List.mem_map.1 hx
    exact h y hy)
  rw [List.append_nil] at hl
  rw [hl]
  have : linesF [] [] = [] := rfl
  rw [this, List.append_nil, map_eta]
theorem linesB_last (crlf : Bool) (xs : List ByteArray) (z : ByteArray) (h : ∀ x ∈ xs, noNl x) (hz : noNl z) (h0 : 0 < z.size) : linesB (joinB crlf xs ++ z) = xs ++ [z] := by
  unfold linesB linesL
  rw [ByteArray.data_append, Array.toList_append, joinB_data]
  have hl := lines_join (if crlf then [13, 10] else [10]) (by cases crlf <;> simp) (xs.map fun x => x.data.toList) z.data.toList (fun x hx => by
    obtain ⟨y, hy, rfl⟩ := List.mem_map.1 hx
    exact h y hy)
  have hne : z.data.toList ≠ [] := fun e => by
    have h2 : z.size = z.data.toList.length := by rw [Array.length_toList]; rfl
    rw [e, List.length_nil] at h2
    omega
  rw [hl, lines_end (fun c hc => (hz c hc).1) hne, List.map_append, map_eta]
  simp
theorem joinB_nil (crlf : Bool) : joinB crlf [] = ⟨#[]⟩ := rfl
theorem joinB_lf (xs : List ByteArray) (x : ByteArray) : joinB false xs ++ (x ++ ⟨#[10]⟩) = joinB false (xs ++ [x]) := by
  apply ByteArray.ext
  apply Array.ext'
  rw [ByteArray.data_append, ByteArray.data_append, Array.toList_append, Array.toList_append, joinB_data, joinB_data]
  simp [joinL]
theorem joinB_cr (xs : List ByteArray) (x : ByteArray) : (joinB true xs ++ (x ++ ⟨#[10]⟩)).extract 0 ((joinB true xs ++ (x ++ ⟨#[10]⟩)).size - 1) ++ ⟨#[13, 10]⟩ = joinB true (xs ++ [x]) := by
  apply ByteArray.ext
  apply Array.ext'
  have hs : (joinB true xs ++ (x ++ ⟨#[10]⟩)).size = ((joinB true xs).data.toList ++ x.data.toList).length + 1 := by
    rw [ByteArray.size_append, ByteArray.size_append, List.length_append, Array.length_toList, Array.length_toList]
    show (joinB true xs).data.size + (x.data.size + 1) = _
    omega
  have key : ∀ A X : List UInt8, ((A ++ (X ++ [10])).drop 0).take ((A ++ X).length + 1 - 1 - 0) = A ++ X := by
    intro A X
    rw [List.drop_zero, ← List.append_assoc, show (A ++ X).length + 1 - 1 - 0 = (A ++ X).length by omega, List.take_left]
  rw [hs, ByteArray.data_append, Array.toList_append, ByteArray.data_extract, Array.toList_extract, List.extract_eq_take_drop, ByteArray.data_append, ByteArray.data_append, Array.toList_append, Array.toList_append]
  rw [show ((⟨#[10]⟩ : ByteArray)).data.toList = [10] from rfl, key, joinB_data, joinB_data]
  simp [joinL]
theorem joinB_size (crlf : Bool) (xs : List ByteArray) (h : ∀ x ∈ xs, x.size ≤ 30) : (joinB crlf xs).size ≤ xs.length * 32 := by
  have key : ∀ ys : List (List UInt8), (∀ y ∈ ys, y.length ≤ 30) → (joinL (if crlf then [13, 10] else [10]) ys).length ≤ ys.length * 32 := by
    intro ys
    induction ys with
    | nil => intro _; simp [joinL]
    | cons y ys ih =>
      intro hy
      have h1 := hy y (by simp)
      have h2 := ih (fun z hz => hy z (by simp [hz]))
      have h3 : (if crlf = true then ([13, 10] : List UInt8) else [10]).length ≤ 2 := by cases crlf <;> simp
      simp only [joinL, List.flatMap_cons, List.length_append, List.length_cons] at *
      omega
  have e : (joinB crlf xs).size = (joinB crlf xs).data.toList.length := by rw [Array.length_toList]; rfl
  rw [e, joinB_data]
  have := key (xs.map fun x => x.data.toList) (fun y hy => by
    obtain ⟨x, hx, rfl⟩ := List.mem_map.1 hy
    have h2 : x.size = x.data.toList.length := by rw [Array.length_toList]; rfl
    have := h x hx
    omega)
  rwa [List.length_map] at this

end Go.Proofs.YtdncdlcfgljheaaDoor
