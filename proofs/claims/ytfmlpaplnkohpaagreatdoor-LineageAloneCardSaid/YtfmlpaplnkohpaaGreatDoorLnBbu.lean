/- Plain and memory: columns that get new names one after another (LineageAlone). -/
import Derived.Test.YtfmlpaplnkohpaaGreatDoorLnBbl
import Derived.Test.YtfmlpaplnkohpaaGreatDoorLnBbd
import Derived.Test.YtfmlpaplnkohpaaGreatDoorLnBbg
import Derived.Test.YtfmlpaplnkohpaaGreatDoorLnBad
set_option linter.unusedVariables false
set_option linter.unusedSimpArgs false
namespace Go.Proofs.YtfmlpaplnkohpaaGreatDoor
open Go.RowKit
def nmC (ns : List ByteArray) (x : Co) (i : Nat) : Co := ⟨ns.getD i ⟨#[]⟩, x.cells⟩
def nmTo (ns : List ByteArray) (xs : List Co) (q : Nat) : List Co := (List.range xs.length).map fun i => if i < q then nmC ns (xs.getD i Co.z) i else xs.getD i Co.z
def nmL (ns : List ByteArray) (xs : List Co) : List Co := nmTo ns xs xs.length
theorem nmTo_len (ns : List ByteArray) (xs : List Co) (q : Nat) : (nmTo ns xs q).length = xs.length := by simp [nmTo]
theorem nmTo_getD (ns : List ByteArray) (xs : List Co) (q : Nat) {i : Nat} (hi : i < xs.length) : (nmTo ns xs q).getD i Co.z = if i < q then nmC ns (xs.getD i Co.z) i else xs.getD i Co.z := by simp [nmTo, List.getD, hi]
theorem nmTo_zero (ns : List ByteArray) (xs : List Co) : nmTo ns xs 0 = xs := by
  refine List.ext_getElem (nmTo_len ns xs 0) fun i h1 h2 => ?_
  simp [nmTo, List.getD, h2]
theorem nmTo_cells (ns : List ByteArray) (xs : List Co) (q : Nat) {i : Nat} (hi : i < xs.length) : ((nmTo ns xs q).getD i Co.z).cells = (xs.getD i Co.z).cells := by
  rw [nmTo_getD _ _ _ hi]
  split <;> rfl
theorem nm_put {W : World} {base : Nat} {e : TypeId} {g L cap q : Nat} {xs : List Co} {cv : Nat → Value} {ns : List ByteArray} (hrow : W.ownsRow base e 2 (.slice (some ⟨g, 0, none⟩) L cap) L (flatK 2 L (coF (nmTo ns xs q) cv))) (hL : xs.length = L) (hq : q < L) :
    (W.setCell ⟨g, q * 2, none⟩ (.string (ns.getD q ⟨#[]⟩))).ownsRow base e 2 (.slice (some ⟨g, 0, none⟩) L cap) L (flatK 2 L (coF (nmTo ns xs (q + 1)) cv)) := by
  have h1 := (hrow.stored (q * 2) (.string (ns.getD q ⟨#[]⟩))).1
  rw [show q * 2 = q * 2 + 0 from rfl, flat_set2 L (coF (nmTo ns xs q) cv) (coF (nmTo ns xs (q + 1)) cv) q 0 hq (by omega) (.string (ns.getD q ⟨#[]⟩)) ?_ ?_] at h1
  · exact h1
  · simp only [coF, two]
    rw [nmTo_getD _ _ _ (by omega), if_pos (by omega)]
    rfl
  · intro i' j' hne hj
    rcases (show j' = 0 ∨ j' = 1 by omega) with rfl | rfl
    · simp only [coF, two]
      by_cases hi' : i' < xs.length
      · rw [nmTo_getD _ _ _ hi', nmTo_getD _ _ _ hi']
        by_cases h2 : i' < q
        · rw [if_pos (by omega), if_pos h2]
        · rw [if_neg (by omega), if_neg h2]
      · simp [List.getD, nmTo, hi']
    · rfl
def nmA : List ByteArray := [⟨#[112]⟩, ⟨#[113]⟩, ⟨#[114]⟩, ⟨#[115]⟩]
def nmB : List ByteArray := [⟨#[119]⟩, ⟨#[120]⟩, ⟨#[121]⟩, ⟨#[122]⟩]
theorem nm_facts : (∀ i, i < 3 → TextOk 1024 (nmA.getD i ⟨#[]⟩)) ∧ (∀ i, i < 3 → TextOk 1024 (nmB.getD i ⟨#[]⟩)) := by unfold TextOk; decide +kernel
theorem nm_differ : (∀ i, i < 3 → ∀ j, j < 3 → i ≠ j → nmA.getD i ⟨#[]⟩ ≠ nmA.getD j ⟨#[]⟩) ∧ (∀ i, i < 3 → ∀ j, j < 3 → nmA.getD i ⟨#[]⟩ ≠ nmB.getD j ⟨#[]⟩) := by decide +kernel
theorem nmL_names (ns : List ByteArray) (xs : List Co) : namesL (nmL ns xs) = (List.range xs.length).map fun i => ns.getD i ⟨#[]⟩ := by
  unfold namesL nmL nmTo
  rw [List.map_map]
  refine List.map_congr_left fun i hi => ?_
  have h := List.mem_range.1 hi
  simp [h, nmC]
theorem nmL_cols {ns : List ByteArray} {t : Ta} (h : KTabOk t) (hn : ∀ i, i < 3 → TextOk 1024 (ns.getD i ⟨#[]⟩)) : ∃ n, n ≤ 6 ∧ ColsV (nmL ns t.cols) n := by
  obtain ⟨-, h3, n, hn6, hc⟩ := h
  refine ⟨n, hn6, fun x hx => ?_⟩
  obtain ⟨i, hi, rfl⟩ := List.mem_map.1 hx
  have hi' := List.mem_range.1 hi
  have h4 := hc _ (getD_mem hi' Co.z)
  simp only [hi', if_true]
  exact ⟨hn i (by omega), h4.2.1, h4.2.2⟩
theorem nmL_tab {ns : List ByteArray} {t : Ta} (h : KTabOk t) (hn : ∀ i, i < 3 → TextOk 1024 (ns.getD i ⟨#[]⟩)) {id : Int} (h0 : 0 ≤ id) (h1 : id ≤ 1073741824) : TabV ⟨id, t.name, nmL ns t.cols⟩ ∧ Few (nmL ns t.cols) := by
  obtain ⟨n, hn6, hc⟩ := nmL_cols h hn
  refine ⟨⟨h0, h1, h.1.more (by omega), by show (nmL ns t.cols).length ≤ 64; rw [nmL, nmTo_len]; have := h.2.1; omega, n, by omega, hc⟩, n, by omega, hc⟩
theorem alone_links {s t : Ta} (hs : KTabOk s) (ht : KTabOk t) (h1 : s.cols ≠ []) (h2 : t.cols ≠ []) (i j k : Int) (n1 n2 n3 : ByteArray) (hik : i < k) :
    linksL [⟨i, n1, nmL nmA s.cols⟩, ⟨j, n2, nmL nmB t.cols⟩] = [] ∧ linksL [⟨i, n1, nmL nmA s.cols⟩, ⟨j, n2, nmL nmB t.cols⟩, ⟨k, n3, nmL nmA s.cols⟩] = [⟨i, k, []⟩] := by
  have hl1 : 0 < s.cols.length := List.length_pos_iff.2 h1
  have hl2 : 0 < t.cols.length := List.length_pos_iff.2 h2
  have hs3 := hs.2.1
  have ht3 := ht.2.1
  have ha : ∀ m, m < s.cols.length → (nmL nmA s.cols).getD m Co.z ∈ nmL nmA s.cols ∧ ((nmL nmA s.cols).getD m Co.z).name = nmA.getD m ⟨#[]⟩ := fun m hm => by
    refine ⟨getD_mem (by rw [nmL, nmTo_len]; exact hm) _, ?_⟩
    rw [nmL, nmTo_getD _ _ _ hm, if_pos hm]
    rfl
  have hb : ∀ m, m < t.cols.length → (nmL nmB t.cols).getD m Co.z ∈ nmL nmB t.cols ∧ ((nmL nmB t.cols).getD m Co.z).name = nmB.getD m ⟨#[]⟩ := fun m hm => by
    refine ⟨getD_mem (by rw [nmL, nmTo_len]; exact hm) _, ?_⟩
    rw [nmL, nmTo_getD _ _ _ hm, if_pos hm]
    rfl
  refine links_alone (a := ⟨i, n1, nmL nmA s.cols⟩) (b := ⟨j, n2, nmL nmB t.cols⟩) (c := ⟨k, n3, nmL nmA s.cols⟩) ⟨_, (ha 0 hl1).1, ?_⟩ ⟨_, (hb 0 hl2).1, ?_⟩ rfl hik ?_
  · rw [(ha 0 hl1).2]
    show _ ∉ namesL (nmL nmB t.cols)
    rw [nmL_names]
    intro hm
    obtain ⟨q, hq, e⟩ := List.mem_map.1 hm
    have := List.mem_range.1 hq
    exact nm_differ.2 0 (by omega) q (by omega) e.symm
  · rw [(hb 0 hl2).2]
    show _ ∉ namesL (nmL nmA s.cols)
    rw [nmL_names]
    intro hm
    obtain ⟨q, hq, e⟩ := List.mem_map.1 hm
    have := List.mem_range.1 hq
    exact nm_differ.2 q (by omega) 0 (by omega) e
  · show (namesL (nmL nmA s.cols)).Nodup
    rw [nmL_names]
    rw [List.nodup_iff_pairwise_ne, List.pairwise_map]
    refine List.Pairwise.imp_of_mem ?_ List.pairwise_lt_range
    intro p q hp hq hpq
    have h3 := List.mem_range.1 hp
    have h4 := List.mem_range.1 hq
    exact nm_differ.1 p (by omega) q (by omega) (by omega)
theorem alone_roots (a b c : Ta) (h1 : a.id = 1) (h2 : b.id = 2) (h3 : c.id = 3) : rootIds [a, b, c] [⟨1, 3, []⟩] = [1, 2] := by
  simp [rootIds, rootI, toL, h1, h2, h3]
theorem rdTa_box {W : World} {n : Nat} {e : TypeId} {S : Nat → Prop} {ts : List Ta} {tv : Nat → Value} (hb : BoxN W n e (flatK 3 ts.length (taF ts tv)).toArray) (hS : S n) (hm : ts.length ≤ maxLen) (hk : ∀ i, i < ts.length → RdCo W S (tv i) (ts.getD i Ta.z).cols) :
    RdTa W S (.slice (some ⟨n, 0, none⟩) ts.length ts.length) ts :=
  ⟨tv, ⟨some ⟨n, 0, none⟩, ts.length, rfl, Nat.le_refl _, hm, fun _ => ⟨n, 0, rfl, hS, fun i hi j hj => by
    have h := flatK_at (k := 3) (f := taF ts tv) hi hj
    rw [show 0 + i * 3 + j = i * 3 + j by omega]
    exact hb.cell (i * 3 + j) (by rw [List.getElem?_toArray]; exact h)⟩⟩, hk⟩
end Go.Proofs.YtfmlpaplnkohpaaGreatDoor
