/- slices.SortFunc at columns of an index: laid (see the text ShP). slices.SortFunc at columns of an index: plain part. Contract of slices.SortFunc at columns of an index. -/
import Derived.Test.YtabemneoobbnaaaGreatDoorNv
import Derived.Test.YtabemneoobbnaaaGreatDoorShP
namespace Go.Proofs.YtabemneoobbnaaaGreatDoor
open Go.RowKit

/-- a column with the place of its values -/
abbrev Sv := Cv × (Option Addr × Nat × Nat)
instance : Inhabited Sv := ⟨(Cv.z, (none, 0, 0))⟩
def encS (x : Sv) : List Value := [.int .i64 x.1.1.1, .int .i64 (x.1.1.2 : Int), .slice x.2.1 x.2.2.1 x.2.2.2]
def cfS (x y : Sv) : Int := refCmp (refZ x.1) (refZ y.1)
theorem ltS (x y : Sv) : Go.Proofs.ltOf cfS x y = rlt (refZ x.1) (refZ y.1) := by
  unfold Go.Proofs.ltOf cfS refCmp
  by_cases h : rlt (refZ x.1) (refZ y.1) = true
  · rw [if_pos h, h]; rfl
  · rw [if_neg h, Bool.eq_false_iff.2 h]
    split <;> rfl
theorem rlt_iff (a b : Int × Int) : rlt a b = true ↔ a.1 < b.1 ∨ (a.1 = b.1 ∧ a.2 < b.2) := by
  unfold rlt; simp
theorem rlt_false (a b : Int × Int) : rlt a b = false ↔ ¬(a.1 < b.1 ∨ (a.1 = b.1 ∧ a.2 < b.2)) := by
  rw [← rlt_iff]; simp
theorem swoS : Go.Sort.SWO (Go.Proofs.ltOf cfS) where
  irrefl x := by rw [ltS, rlt_false]; omega
  trans x y z h1 h2 := by rw [ltS, rlt_iff] at *; omega
  ntrans x y z h1 h2 := by rw [ltS, rlt_false] at *; omega

def adr : Value → Option Addr × Nat × Nat
  | .slice a n c => (a, n, c)
  | _ => (none, 0, 0)
def svsOf (cs : List Cv) (vv : Nat → Value) : Array Sv := ((List.range cs.length).map fun i => (cs.getD i Cv.z, adr (vv i))).toArray
theorem svs_size (cs : List Cv) (vv : Nat → Value) : (svsOf cs vv).size = cs.length := by simp [svsOf]
theorem svs_at {cs : List Cv} {vv : Nat → Value} {i : Nat} (h : i < cs.length) : (svsOf cs vv)[i]! = (cs.getD i Cv.z, adr (vv i)) := by
  rw [getElem!_pos _ i (by rw [svs_size]; exact h)]
  simp [svsOf]
theorem svs_mem {cs : List Cv} {vv : Nat → Value} {x : Sv} (h : x ∈ (svsOf cs vv).toList) : ∃ i, i < cs.length ∧ x = (cs.getD i Cv.z, adr (vv i)) := by
  simp only [svsOf, List.mem_map, List.mem_range] at h
  obtain ⟨i, hi, e⟩ := h
  exact ⟨i, hi, e.symm⟩
theorem svs_cols (cs : List Cv) (vv : Nat → Value) : (svsOf cs vv).toList.map (fun x => x.1) = cs := by
  apply List.ext_getElem?
  intro i
  by_cases h : i < cs.length
  · simp [svsOf, h]
  · rw [List.getElem?_eq_none (by simp [svsOf]; omega), List.getElem?_eq_none (by omega)]
/-- the cells of a row of columns -/
def colsOf (d : Array Sv) : List Cv := d.toList.map fun x => x.1
def valsOf (d : Array Sv) (i : Nat) : Value := .slice d[i]!.2.1 d[i]!.2.2.1 d[i]!.2.2.2
theorem flatS (d : Array Sv) {j : Nat} (hj : j < d.size * 3) : (Go.Sort.flatK encS 3 d)[j]! = cvF (colsOf d) (valsOf d) (j / 3) (j % 3) := by
  rw [Go.Sort.get_flatK _ _ _ _ hj]
  have h1 : j / 3 < d.size := by omega
  have e1 : (colsOf d).getD (j / 3) Cv.z = d[j / 3]!.1 := by
    rw [getElem!_pos d _ h1]
    simp [colsOf, List.getD, h1]
  unfold cvF
  rw [e1]
  rcases (show j % 3 = 0 ∨ j % 3 = 1 ∨ j % 3 = 2 by omega) with e | e | e <;> rw [e] <;> rfl
theorem flatS_list (d : Array Sv) : (Go.Sort.flatK encS 3 d).toList = flatK 3 d.size (cvF (colsOf d) (valsOf d)) := by
  apply List.ext_getElem?
  intro j
  by_cases hj : j < d.size * 3
  · have h2 := flatK_at (f := cvF (colsOf d) (valsOf d)) (k := 3) (i := j / 3) (j := j % 3) (show j / 3 < d.size by omega) (by omega)
    rw [show j / 3 * 3 + j % 3 = j by omega] at h2
    rw [h2, Array.getElem?_toList, ← flatS d hj, getElem!_pos _ _ (by rw [Go.Sort.size_flatK]; exact hj), Array.getElem?_eq_getElem]
  · rw [List.getElem?_eq_none (by simp; omega), List.getElem?_eq_none (by rw [flatK_len]; omega)]
theorem put_take (F c : Array Value) (h : F.size ≤ c.size) : (Go.Sort.putCells id 0 F c).toList.take F.size = F.toList := by
  apply List.ext_getElem?
  intro j
  by_cases hj : j < F.size
  · rw [List.getElem?_take_of_lt hj, Array.getElem?_toList, Array.getElem?_toList]
    have hc : j < c.size := by omega
    simp [Go.Sort.putCells, hj, hc]
  · rw [List.getElem?_eq_none (by simp; omega), List.getElem?_eq_none (by simp; omega)]
/-- the sorted row -/
theorem sorted_heap {w : World} {blk m : Nat} {c : Array Value} {e : TypeId} (hb : w.heap[blk]? = some (.cells c e (0, 0))) (d : Array Sv) (os : Array Obj) :
    (Go.Proofs.sortWorldK encS 3 w blk 0 m d os).heap[blk]? = some (.cells (Go.Sort.putCells id 0 (Go.Sort.flatK encS 3 d) c) e (0, 0)) := by
  have hg : blk < w.heap.size := (Array.getElem?_eq_some_iff.1 hb).1
  unfold Go.Proofs.sortWorldK Go.Sort.putRowK
  rw [Go.Sort.heap_grow_old _ _ (by simpa using hg)]
  simp [Go.Sort.putRow, Go.Sort.mapBlock, Go.Sort.ahead, Array.getElem?_modify, hb, Go.Sort.onCells]
theorem sorted_grown {w : World} {blk m : Nat} (d : Array Sv) (os : Array Obj) : w.grownBy (Go.Proofs.sortWorldK encS 3 w blk 0 m d os) (some blk) := by
  refine ⟨rfl, rfl, rfl, by simp [Go.Proofs.sortWorldK, Go.Sort.putRowK], fun k hk hne => ?_⟩
  unfold Go.Proofs.sortWorldK Go.Sort.putRowK
  rw [Go.Sort.heap_grow_old _ _ (by simpa using hk)]
  have : blk ≠ k := fun e => hne (by rw [e])
  simp [Go.Sort.putRow, Go.Sort.mapBlock, Go.Sort.ahead, Array.getElem?_modify, this]

/-- what the sort is given -/
theorem cv_holds {w : World} {base blk n cap : Nat} {e : TypeId} {cs : List Cv} {vv : Nat → Value} (hn : cs.length = n)
    (h : Nest 3 w base e (.slice (some ⟨blk, 0, none⟩) n cap) cs.length (cvF cs vv) (fun i w S => InS w S (vv i) (cs.getD i Cv.z).2)) :
    Go.Sort.HoldsK encS 3 w blk 0 (svsOf cs vv) := by
  subst hn
  rcases h.row.2 with ⟨e1, -⟩ | ⟨g, cap1, cur, e1, hb, hheap, hcn, hcm, hsz, htake⟩
  · cases e1
  · cases e1
    intro j hj
    rw [Go.Sort.size_flatK, svs_size] at hj
    rw [Nat.zero_add, flatS _ (by rw [svs_size]; exact hj)]
    have h1 : colsOf (svsOf cs vv) = cs := svs_cols cs vv
    have h2 : valsOf (svsOf cs vv) (j / 3) = vv (j / 3) := by
      obtain ⟨a, c, e2, -⟩ := h.kids (j / 3) (by omega)
      unfold valsOf
      rw [svs_at (by omega), e2]
      rfl
    have h3 := flatK_at (f := cvF cs vv) (k := 3) (i := j / 3) (j := j % 3) (show j / 3 < cs.length by omega) (by omega)
    rw [show j / 3 * 3 + j % 3 = j by omega, ← htake, List.getElem?_take_of_lt hj, Array.getElem?_toList] at h3
    refine ⟨?_, ?_⟩
    · show World.cell? w ⟨blk, j, none⟩ = some _
      simp only [World.cell?, hheap, id]
      simp [h3, h1, cvF, h2]
    · simp [World.frozen?, hheap]

/-- what the sort gives -/
theorem cv_sorted {w : World} {base blk n cap m : Nat} {e : TypeId} {cs : List Cv} {vv : Nat → Value} (hn : cs.length = n)
    (h : Nest 3 w base e (.slice (some ⟨blk, 0, none⟩) n cap) cs.length (cvF cs vv) (fun i w S => InS w S (vv i) (cs.getD i Cv.z).2)) {d : Array Sv} (hp : Go.Sort.PermIn 0 n (svsOf cs vv) d) (os : Array Obj) :
    (colsOf d).Perm cs ∧ CvSt (Go.Proofs.sortWorldK encS 3 w blk 0 m d os) base e (.slice (some ⟨blk, 0, none⟩) n cap) (colsOf d) := by
  subst hn
  have hds : d.size = cs.length := hp.1.trans (svs_size _ _)
  have hperm : d.toList.Perm (svsOf cs vv).toList := by
    have h1 := hp.2.2
    rw [Array.extract_eq_self_of_le (by omega), Array.extract_eq_self_of_le (by rw [svs_size]; omega)] at h1
    exact h1
  have hcols : (colsOf d).Perm cs := by
    have := hperm.map (fun x : Sv => x.1)
    rwa [svs_cols] at this
  refine ⟨hcols, ?_⟩
  rcases h.row.2 with ⟨e1, -⟩ | ⟨g, cap1, cur, e1, hb, hheap, hcn, hcm, hsz, htake⟩
  · cases e1
  · cases e1
    have hg := sorted_grown (w := w) (blk := blk) (m := m) d os
    have hh := sorted_heap (m := m) hheap d os
    have hl : (colsOf d).length = cs.length := by simp [colsOf, hds]
    generalize Go.Proofs.sortWorldK encS 3 w blk 0 m d os = w' at *
    have hgl : blk < w.heap.size := (Array.getElem?_eq_some_iff.1 hheap).1
    refine ⟨valsOf d, ⟨?_, Nat.le_trans h.low hg.size, fun i hi => ?_⟩⟩
    · rw [hl]
      refine ⟨flatK_len _ _ _, .inr ⟨blk, cap, _, rfl, hb, hh, hcn, hcm, by simp [Go.Sort.putCells, hsz], ?_⟩⟩
      have h1 := put_take (Go.Sort.flatK encS 3 d) cur (by rw [Go.Sort.size_flatK, hds, hsz]; exact Nat.mul_le_mul_right _ hcn)
      rw [Go.Sort.size_flatK, hds] at h1
      rw [h1, flatS_list, hds]
    · rw [hl] at hi
      have hi' : i < d.size := by omega
      obtain ⟨i0, hi0, e0⟩ := svs_mem (hperm.mem_iff.1 (Array.getElem_mem_toList hi'))
      obtain ⟨a, c, e2, -⟩ := h.kids i0 hi0
      have e3 : valsOf d i = vv i0 := by
        unfold valsOf
        rw [getElem!_pos d _ hi', e0, e2]
        rfl
      have e4 : (colsOf d).getD i Cv.z = cs.getD i0 Cv.z := by
        have : (colsOf d).getD i Cv.z = d[i].1 := by simp [colsOf, List.getD, hi']
        rw [this, e0]
      rw [e3, e4]
      refine (InK.keep (h.kids i0 hi0) fun p hp => ?_).more fun b hb => ⟨hb.1, Nat.lt_of_lt_of_le hb.2.1 hg.size, hb.2.2⟩
      exact World.cell?_of_block (hg.block _ hp.2.1 (fun e => hp.2.2 (by rw [e]; rfl)))
/-- .. and where it may be read -/
theorem cv_sorted_read {w : World} {base blk n cap m B : Nat} {e : TypeId} {cs : List Cv} {vv : Nat → Value} (hn : cs.length = n) (hbB : blk < B)
    (h : Nest 3 w base e (.slice (some ⟨blk, 0, none⟩) n cap) cs.length (cvF cs vv) (fun i w S => InS w S (vv i) (cs.getD i Cv.z).2)) (hk : ∀ i, i < cs.length → InS w (fun b => b < B ∧ b < w.heap.size ∧ b ≠ blk) (vv i) (cs.getD i Cv.z).2)
    {d : Array Sv} (hp : Go.Sort.PermIn 0 n (svsOf cs vv) d) (os : Array Obj) :
    RdCv (Go.Proofs.sortWorldK encS 3 w blk 0 m d os) (· < B) (.slice (some ⟨blk, 0, none⟩) n cap) (colsOf d) := by
  subst hn
  have hds : d.size = cs.length := hp.1.trans (svs_size _ _)
  have hperm : d.toList.Perm (svsOf cs vv).toList := by
    have h1 := hp.2.2
    rw [Array.extract_eq_self_of_le (by omega), Array.extract_eq_self_of_le (by rw [svs_size]; omega)] at h1
    exact h1
  rcases h.row.2 with ⟨e1, -⟩ | ⟨g, cap1, cur, e1, hb, hheap, hcn, hcm, hsz, htake⟩
  · cases e1
  · cases e1
    have hg := sorted_grown (w := w) (blk := blk) (m := m) d os
    have hh := sorted_heap (m := m) hheap d os
    have hl : (colsOf d).length = cs.length := by simp [colsOf, hds]
    generalize Go.Proofs.sortWorldK encS 3 w blk 0 m d os = w' at *
    have hrow : w'.ownsRow base e 3 (.slice (some ⟨blk, 0, none⟩) cs.length cap) cs.length (flatK 3 cs.length (cvF (colsOf d) (valsOf d))) := by
      refine ⟨flatK_len _ _ _, .inr ⟨blk, cap, _, rfl, hb, hh, hcn, hcm, by simp [Go.Sort.putCells, hsz], ?_⟩⟩
      have h1 := put_take (Go.Sort.flatK encS 3 d) cur (by rw [Go.Sort.size_flatK, hds, hsz]; exact Nat.mul_le_mul_right _ hcn)
      rw [Go.Sort.size_flatK, hds] at h1
      rw [h1, flatS_list, hds]
    refine ⟨valsOf d, ?_, fun i hi => ?_⟩
    · rw [hl]
      exact (inK_of_owns hrow).more fun b hb => by have e2 : blk = b := by simpa [Value.ownBlock] using hb
                                                   omega
    · rw [hl] at hi
      have hi' : i < d.size := by omega
      obtain ⟨i0, hi0, e0⟩ := svs_mem (hperm.mem_iff.1 (Array.getElem_mem_toList hi'))
      obtain ⟨a, c, e2, -⟩ := hk i0 hi0
      have e3 : valsOf d i = vv i0 := by
        unfold valsOf
        rw [getElem!_pos d _ hi', e0, e2]
        rfl
      have e4 : (colsOf d).getD i Cv.z = cs.getD i0 Cv.z := by
        have : (colsOf d).getD i Cv.z = d[i].1 := by simp [colsOf, List.getD, hi']
        rw [this, e0]
      rw [e3, e4]
      refine (InK.keep (hk i0 hi0) fun p hp => ?_).more fun b hb => hb.1
      exact World.cell?_of_block (hg.block _ hp.2.1 (fun e => hp.2.2 (by cases e; rfl)))
theorem sorted_pair {d : Array Sv} {n : Nat} (hn : d.size = n) (h : Go.Sort.SortedIn (Go.Proofs.ltOf cfS) 0 n d) : (colsOf d).Pairwise (fun a b => rlt (refZ b) (refZ a) = false) := by
  subst hn
  rw [List.pairwise_iff_getElem]
  intro i j hi hj hij
  have hi' : i < d.size := by simpa [colsOf] using hi
  have hj' : j < d.size := by simpa [colsOf] using hj
  have := h i j (Nat.zero_le _) hij hj'
  rw [ltS, getElem!_pos d i hi', getElem!_pos d j hj'] at this
  simpa [colsOf] using this

end Go.Proofs.YtabemneoobbnaaaGreatDoor

namespace Go.Proofs.YtabemneoobbnaaaGreatDoor
open Go.RowKit Go.Shelf

theorem byRef_lays (blk off size : Nat) (w : World) : Go.Proofs.CmpLays Tryz.prog 90 #[] encS 3 cfS blk off size w :=
  fun _ _ _ _ x y => posting_byRef x.1.1.1 (x.1.1.2 : Int) y.1.1.1 (y.1.1.2 : Int) x.2.1 y.2.1 x.2.2.1 x.2.2.2 y.2.2.1 y.2.2.2 _

/-- columns of the call's own, below a bound -/
def CvB (w : World) (base B : Nat) (e : TypeId) (blk n cap : Nat) (cs : List Cv) : Prop :=
  ∃ vv : Nat → Value, Nest 3 w base e (.slice (some ⟨blk, 0, none⟩) n cap) cs.length (cvF cs vv) (fun i w S => InS w S (vv i) (cs.getD i Cv.z).2) ∧ (∀ i, i < cs.length → InS w (fun b => b < B ∧ b < w.heap.size ∧ b ≠ blk) (vv i) (cs.getD i Cv.z).2) ∧ blk < B
theorem CvB.of {w : World} {base : Nat} {e : TypeId} {blk n cap : Nat} {cs : List Cv} (h : CvSt w base e (.slice (some ⟨blk, 0, none⟩) n cap) cs) : CvB w base w.heap.size e blk n cap cs := by
  obtain ⟨vv, h⟩ := h
  exact ⟨vv, h, fun i hi => InK.more (h.kids i hi) fun b hb => ⟨hb.2.1, hb.2.1, fun e => hb.2.2 (by rw [e]; rfl)⟩, (h.row.lt blk rfl).2⟩
theorem CvB.alloc {w : World} {base B : Nat} {e : TypeId} {blk n cap : Nat} {cs : List Cv} (h : CvB w base B e blk n cap cs) (O : Obj) : CvB (w.alloc O) base B e blk n cap cs := by
  obtain ⟨vv, h1, h2, h3⟩ := h
  exact ⟨vv, h1.alloc (fun i _ => keeps_s _ _) O, fun i hi => (InK.keep (h2 i hi) fun p hp => World.cell?_alloc_lt _ _ _ hp.2.1).more fun b hb => ⟨hb.1, by rw [World.size_alloc]; omega, hb.2.2⟩, h3⟩

theorem posting_sort (cs : List Cv) (base B blk n cap : Nat) (w : World) (hn : cs.length = n) (hm : n ≤ 1048576) (h : CvB w base B 96 blk n cap cs) :
    Calls Tryz.prog 89 #[.slice (some ⟨blk, 0, none⟩) n cap, .func (.func 90) #[] #[]] w fun e w' =>
      e = .returned (.tuple #[]) ∧ ∃ cs', cs'.Perm cs ∧ cs'.Pairwise (fun a b => rlt (refZ b) (refZ a) = false) ∧ RdCv w' (· < B) (.slice (some ⟨blk, 0, none⟩) n cap) cs' ∧ w.grownBy w' (some blk) := by
  obtain ⟨vv, h, hk, hbB⟩ := h
  have eg : ∀ args w, (callFunc 90 args).run Tryz.prog w = .ok (.enter 90 args) w := enters_of Tryz.func90 (by kernel_rfl) rfl
  have hlt : blk < w.heap.size := (h.row.lt blk rfl).2
  have hcon := AnyQ.slices_SortFunc Tryz.sortSets 3 Tryz.isAgg96 Tryz.sizeOf96 encS (fun _ => rfl) (fun x v hv => by simp [encS] at hv; rcases hv with rfl | rfl | rfl <;> rfl) cfS swoS 90 #[] blk 0 cap (svsOf cs vv) w eg (byRef_lays _ _ _ _) (cv_holds hn h) hlt (by rw [svs_size]; omega)
  rw [svs_size, hn] at hcon
  refine hcon.mono ?_
  rintro e w' ⟨he, d', m, os, hp, hs, rfl⟩
  obtain ⟨h1, -⟩ := cv_sorted (m := m) hn h hp os
  have h2 := cv_sorted_read (m := m) hn hbB h hk hp os
  exact ⟨he, colsOf d', h1, sorted_pair (hp.1.trans ((svs_size _ _).trans hn)) hs, h2, sorted_grown d' os⟩

end Go.Proofs.YtabemneoobbnaaaGreatDoor
