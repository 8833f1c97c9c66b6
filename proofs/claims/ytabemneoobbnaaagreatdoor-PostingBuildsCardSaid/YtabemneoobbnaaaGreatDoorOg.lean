/- Plain: columns of an index that are added, removed, put together. No program in sight. -/
import Derived.Test.YtabemneoobbnaaaGreatDoorNy
namespace Go.Proofs.YtabemneoobbnaaaGreatDoor
open Go.RowKit

/-- texts no longer than a machine bears -/
def StrOk (cs : List Cv) : Prop := ∀ c ∈ cs, ∀ s ∈ c.2, s.size ≤ maxLen
theorem refZ_inj {a b : Cv} (h : refZ a = refZ b) : a.1 = b.1 := by
  unfold refZ at h
  have h1 := congrArg Prod.fst h
  have h2 := congrArg Prod.snd h
  simp only at h1 h2
  exact Prod.ext h1 (by omega)
theorem rlt_ne {a b : Cv} (h : rlt (refZ a) (refZ b) = true) : a.1 ≠ b.1 := by
  intro e
  rw [rlt_iff] at h
  unfold refZ at h
  rw [e] at h
  simp only at h
  omega
theorem rlt_or_eq {a b : Cv} (h : rlt (refZ b) (refZ a) = false) (hn : a.1 ≠ b.1) : rlt (refZ a) (refZ b) = true := by
  rw [rlt_false] at h
  rw [rlt_iff]
  have : refZ a ≠ refZ b := fun e => hn (refZ_inj e)
  by_cases e : (refZ a).1 = (refZ b).1
  · have e2 : (refZ a).2 ≠ (refZ b).2 := fun e2 => this (Prod.ext e e2)
    omega
  · omega
/-- references that are different -/
def Diff (cs : List Cv) : Prop := cs.Pairwise (fun a b => a.1 ≠ b.1)
theorem diff_of {cs : List Cv} (h : cs.Pairwise (fun a b => rlt (refZ a) (refZ b) = true)) : Diff cs := h.imp fun h => rlt_ne h
theorem Diff.perm {cs cs' : List Cv} (h : Diff cs) (p : cs'.Perm cs) : Diff cs' := (p.pairwise_iff fun h e => h e.symm).2 h
theorem up_of {cs : List Cv} (h : cs.Pairwise (fun a b => rlt (refZ b) (refZ a) = false)) (hd : Diff cs) : cs.Pairwise (fun a b => rlt (refZ a) (refZ b) = true) :=
  (h.and hd).imp fun h => rlt_or_eq h.1 h.2
/-- what columns need one by one -/
structure ColsOk (cs : List Cv) : Prop where
  ids : ∀ c ∈ cs, 0 ≤ c.1.1 ∧ c.1.1 ≤ 1073741824
  sets : ∀ c ∈ cs, Asc c.2
  len : ∀ c ∈ cs, c.2.length ≤ 4096
  str : StrOk cs
theorem ColsOk.perm {cs cs' : List Cv} (h : ColsOk cs) (p : ∀ c ∈ cs', c ∈ cs) : ColsOk cs' :=
  ⟨fun c hc => h.ids c (p c hc), fun c hc => h.sets c (p c hc), fun c hc => h.len c (p c hc), fun c hc => h.str c (p c hc)⟩
theorem ColsOk.app {xs ys : List Cv} (h : ColsOk xs) (k : ColsOk ys) : ColsOk (xs ++ ys) := by
  refine ⟨fun c hc => ?_, fun c hc => ?_, fun c hc => ?_, fun c hc => ?_⟩ <;> rcases List.mem_append.1 hc with hc | hc
  · exact h.ids c hc
  · exact k.ids c hc
  · exact h.sets c hc
  · exact k.sets c hc
  · exact h.len c hc
  · exact k.len c hc
  · exact h.str c hc
  · exact k.str c hc
theorem ColsOk.one {r : Int × Nat} {X : List ByteArray} (h1 : 0 ≤ r.1) (h2 : r.1 ≤ 1073741824) (ha : Asc X) (hl : X.length ≤ 4096) (hs : ∀ s ∈ X, s.size ≤ maxLen) : ColsOk [(r, X)] := by
  refine ⟨fun c hc => ?_, fun c hc => ?_, fun c hc => ?_, fun c hc => ?_⟩ <;> (rw [List.mem_singleton] at hc; subst hc)
  · exact ⟨h1, h2⟩
  · exact ha
  · exact hl
  · exact hs
theorem CvsOk.cols {cs : List Cv} (h : CvsOk cs) (hs : StrOk cs) : ColsOk cs := ⟨h.ids, h.sets, h.len, hs⟩
theorem ColsOk.cvs {cs : List Cv} (h : ColsOk cs) (hu : cs.Pairwise (fun a b => rlt (refZ a) (refZ b) = true)) (hm : cs.length ≤ 65536) : CvsOk cs := ⟨hu, h.ids, h.sets, h.len, hm⟩
/-- the columns in order are one list alone -/
theorem cvs_unique {cs cs' : List Cv} (h : cs.Pairwise (fun a b => rlt (refZ a) (refZ b) = true)) (h' : cs'.Pairwise (fun a b => rlt (refZ a) (refZ b) = true)) (p : cs.Perm cs') : cs = cs' :=
  p.eq_of_pairwise (fun a b _ _ h1 h2 => by
    exfalso
    rw [rlt_iff] at h1 h2
    omega) h h'
theorem cvs_up {cs : List Cv} (h : CvsOk cs) {i j : Nat} (hi : i < j) (hj : j < cs.length) : rlt (refZ (cs.getD i Cv.z)) (refZ (cs.getD j Cv.z)) = true := by
  have := List.pairwise_iff_getElem.1 h.up i j (by omega) hj hi
  simpa [List.getD, hj, show i < cs.length by omega] using this
theorem reqB_iff (a b : Int × Int) : reqB a b = true ↔ a = b := by
  unfold reqB
  rw [Bool.and_eq_true, decide_eq_true_iff, decide_eq_true_iff]
  exact ⟨fun h => Prod.ext h.1 h.2, fun h => by rw [h]; exact ⟨rfl, rfl⟩⟩
theorem refsC_at {cs : List Cv} {j : Nat} (hj : j < cs.length) : (refsE (entsOf cs)).getD j (0, 0) = refZ (cs.getD j Cv.z) := by
  simp [refsE, entsOf, List.getD, hj, refZ]
theorem refsC_len (cs : List Cv) : (refsE (entsOf cs)).length = cs.length := by simp [refsE, entsOf]
/-- no column of that reference -/
theorem find_no {cs : List Cv} {r : Int × Nat} (h : ∀ c ∈ cs, c.1 ≠ r) : findR (refsE (entsOf cs)) (r.1, (r.2 : Int)) 0 = -1 := by
  refine findR_none _ _ _ fun j hj => ?_
  rw [refsC_len] at hj
  rw [refsC_at hj]
  cases e : reqB (refZ (cs.getD j Cv.z)) (r.1, (r.2 : Int))
  · rfl
  · rw [reqB_iff] at e
    exact absurd (refZ_inj (b := (r, [])) e) (h _ (getD_mem hj _))
/-- the place of a column -/
theorem find_at {cs : List Cv} (h : CvsOk cs) {i : Nat} (hi : i < cs.length) : findR (refsE (entsOf cs)) (refZ (cs.getD i Cv.z)) 0 = (i : Int) := by
  have h1 := findR_at (refsE (entsOf cs)) (refZ (cs.getD i Cv.z)) 0 i (by rw [refsC_len]; exact hi) (fun j hj => ?_) (by rw [refsC_at hi, reqB_iff])
  · simpa using h1
  · rw [refsC_at (by omega)]
    cases e : reqB (refZ (cs.getD j Cv.z)) (refZ (cs.getD i Cv.z))
    · rfl
    · rw [reqB_iff] at e
      have := cvs_up h hj hi
      rw [e, rlt_iff] at this
      omega
theorem isSet_asc {xs : List ByteArray} (h : Asc xs) : isSet xs = true := by
  rw [isSet_iff]
  intro i hi
  have := List.pairwise_iff_getElem.1 h i (i + 1) (by omega) hi (by omega)
  simpa [List.getD, hi, show i < xs.length by omega] using this
theorem setOf_nil : setOfL [] = [] := by
  have h := setOfL_len []
  exact List.eq_nil_of_length_eq_zero (by simpa using h)
/-- an index of no columns -/
theorem rdIx_nil (w : World) (S : Nat → Prop) : RdIx w S (.slice none 0 0) (.slice none 0 0) (.slice none 0 0) (indexOf []) := by
  have e1 : indexOf [] = ⟨[], [], []⟩ := by simp [indexOf, entsOf, allOf, setOf_nil]
  rw [e1]
  exact ⟨InK.nil, InK.nil, fun _ => .bool false, InK.nil, fun i hi => absurd hi (by simp)⟩
theorem cvsOk_nil : CvsOk [] := ⟨.nil, by simp, by simp, by simp, by simp⟩
theorem strOk_nil : StrOk [] := by intro c hc; simp at hc

end Go.Proofs.YtabemneoobbnaaaGreatDoor
