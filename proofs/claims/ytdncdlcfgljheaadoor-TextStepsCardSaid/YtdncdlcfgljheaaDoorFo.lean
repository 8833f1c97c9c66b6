/- Contracts of Fold, the program's and the reference's. -/
import Derived.Laws.IdiomStrings
import Derived.Test.YtdncdlcfgljheaaDoorGt
namespace Go.Proofs.YtdncdlcfgljheaaDoor
open Go.RowKit

/-- a small letter in place of a capital one -/
def foldN (c : Nat) : Nat := if 65 ≤ c ∧ c ≤ 90 then c + 32 else c
def foldB (s : ByteArray) : ByteArray := ⟨(s.data.toList.map fun c => UInt8.ofNat (foldN c.toNat)).toArray⟩
def byteN (s : ByteArray) (j : Nat) : Nat := (s.data.toList.getD j 0).toNat
theorem byteN_lt (s : ByteArray) (j : Nat) : byteN s j < 256 := UInt8.toNat_lt _
theorem foldN_lt {c : Nat} (h : c < 256) : foldN c < 256 := by unfold foldN; split <;> omega
theorem foldB_size (s : ByteArray) : (foldB s).size = s.size := by
  show (List.toArray _).size = s.data.size
  simp

/-- the bytes of a conversion, some of them folded -/
structure FoldAt (w0 : World) (n : Nat) (f : Nat → Nat) (w : World) : Prop where
  cell : ∀ j, j < n → w.cell? ⟨w0.heap.size, j, none⟩ = some (.int .u8 ((f j : Nat) : Int))
  froz : ∀ j, j < n → w.frozen? ⟨w0.heap.size, j, none⟩ = false
  below : Below w0.heap.size w0 w
  lt : w0.heap.size < w.heap.size
theorem FoldAt.set {w0 w : World} {n i v : Nat} {f f' : Nat → Nat} (h : FoldAt w0 n f w) (hi : i < n) (hf : ∀ j, j < n → f' j = if j = i then v else f j) : FoldAt w0 n f' (w.setCell ⟨w0.heap.size, i, none⟩ (.int .u8 (v : Int))) := by
  refine ⟨fun j hj => ?_, fun j hj => by rw [World.frozen?_setCell]; exact h.froz j hj, h.below.setCell (p := ⟨w0.heap.size, i, none⟩) (Nat.le_refl _) _, by simpa using h.lt⟩
  rw [hf j hj]
  by_cases e : j = i
  · subst e
    rw [if_pos rfl]
    exact World.cell?_setCell_same' _ _ _ (by rw [h.cell j hj]; rfl)
  · rw [if_neg e]
    exact (World.cell?_setCell_other _ _ _ _ (fun e' => e (by have := congrArg Addr.off e'; simp at this; omega))).trans (h.cell j hj)
theorem FoldAt.congr {w0 w : World} {n : Nat} {f f' : Nat → Nat} (h : FoldAt w0 n f w) (e : ∀ j, j < n → f j = f' j) : FoldAt w0 n f' w :=
  ⟨fun j hj => by rw [← e j hj]; exact h.cell j hj, h.froz, h.below, h.lt⟩
theorem FoldAt.drew {w0 w : World} {n : Nat} {f : Nat → Nat} (h : FoldAt w0 n f w) : FoldAt w0 n f w.drew := ⟨h.cell, h.froz, h.below.drew, h.lt⟩

theorem bytes_of (w : World) (s : ByteArray) : ∃ cap w1, (∀ W, W = w → (convert 9 22 (.string s)).run Tryd.prog W = .ok (.slice (some ⟨w.heap.size, 0, none⟩) s.size cap) w1) ∧ FoldAt w s.size (byteN s) w1 := by
  refine ⟨grownCap w s.size 0 5, _, fun W e => by rw [e]; exact run_bytes_of_string w 9 22 5 s Tryd.underlying9 Tryd.underlying22 Tryd.underlying5, ?_⟩
  have hsz : (bytesRow s (grownCap w s.size 0 5)).size ≥ s.size := by
    have h0 : s.data.size = s.size := rfl
    unfold bytesRow
    rw [Array.size_append, Array.size_map, h0]
    omega
  refine ⟨fun j hj => ?_, fun j hj => ?_, ?_, by simp⟩
  · have := World.cell?_alloc_mark w.drew (bytesRow s (grownCap w s.size 0 5)) 5 ((bytesRow s (grownCap w s.size 0 5)).size, (bytesRow s (grownCap w s.size 0 5)).size + 1) j
    rw [show w.drew.heap.size = w.heap.size from rfl] at this
    rw [this, bytesRow_at s _ j hj]
    have hj' : j < s.data.toList.length := by simpa using hj
    simp [byteN, List.getD, List.getElem?_eq_getElem hj']
  · have := World.frozen?_alloc_mark w.drew (bytesRow s (grownCap w s.size 0 5)) 5 (bytesRow s (grownCap w s.size 0 5)).size ((bytesRow s (grownCap w s.size 0 5)).size + 1) j
    rw [show w.drew.heap.size = w.heap.size from rfl] at this
    rw [this]
    simp
    omega
  · exact ((Below.refl _ w).drew).alloc (Nat.le_refl _) _

theorem bytes_back {w0 w : World} {s : ByteArray} (h : FoldAt w0 s.size (fun j => foldN (byteN s j)) w) (cap : Nat) :
    (convert 22 9 (.slice (some ⟨w0.heap.size, 0, none⟩) s.size cap)).run Tryd.prog w = .ok (.string (foldB s)) w := by
  have hl : (s.data.toList.map fun c => UInt8.ofNat (foldN c.toNat)).length = s.size := by rw [List.length_map, Array.length_toList]; rfl
  have := run_convert_bytes_back (P := Tryd.prog) w 22 9 5 ⟨w0.heap.size, 0, none⟩ cap (s.data.toList.map fun c => UInt8.ofNat (foldN c.toNat)) Tryd.underlying22 Tryd.underlying5 Tryd.underlying9 (fun j hj => by
    rw [hl] at hj
    have h1 := h.cell j hj
    have hj' : j < s.data.toList.length := by simpa using hj
    have hlt := foldN_lt (byteN_lt s j)
    have e : (s.data.toList.map fun c => UInt8.ofNat (foldN c.toNat))[j].toNat = foldN (byteN s j) := by
      simp only [List.getElem_map, UInt8.toNat_ofNat']
      rw [show (s.data.toList[j]).toNat = byteN s j from by simp [byteN, List.getD, List.getElem?_eq_getElem hj']]
      omega
    rw [e, show (⟨w0.heap.size, 0, none⟩ : Addr).add j = ⟨w0.heap.size, j, none⟩ from by unfold Addr.add; split <;> simp_all]
    exact h1)
  rw [hl] at this
  exact this

theorem FoldAt.val {w0 w : World} {n : Nat} {f : Nat → Nat} {a : Addr} {x y : Int} (h : FoldAt w0 n f (w.setCell a (.int .u8 x))) (e : y = x) : FoldAt w0 n f (w.setCell a (.int .u8 y)) := e ▸ h

set_option maxRecDepth 100000 in
set_option maxHeartbeats 1000000 in
theorem text_Fold (s : ByteArray) (w : World) (hs : s.size ≤ 1099511627776) :
    Calls Tryd.prog 12 #[.string s] w (Ret w (.string (foldB s))) := by
  obtain ⟨cap, w1, hconv, hF⟩ := bytes_of w s
  have HF := hid hF
  have HBK := hid (fun W h => @bytes_back w W s h cap)
  have HB := hid (byteN_lt s)
  have hc0 := hconv w rfl
  clear hconv hF
  generalize byteN s = f at *
  generalize foldB s = r at *
  generalize s.size = n at *
  go_enter Tryd.func12, Tryd.ntmps12
  go_wp2
  go_loopw [10] (fun i wr => ∃ k : Nat, k ≤ n ∧ i = .int .i64 k ∧ FoldAt w n (fun j => if j < k then foldN (f j) else f j) wr) (fun i _ => n - (intOf i).toNat)
  case atStart => exact ⟨0, by omega, rfl, HF.out.congr (fun j _ => by simp)⟩
  case round =>
    obtain ⟨k, hk, rfl, hA⟩ := hrel
    by_cases hlt : k < n
    · have h1 : wr.cell? ⟨w.heap.size, k, none⟩ = some (.int .u8 ((f k : Nat) : Int)) := by
        have := hA.cell k hlt
        rwa [if_neg (Nat.lt_irrefl _)] at this
      have h2 := hA.froz k hlt
      have hb := HB.out k
      have HS := hid (hA.set (f' := fun j => if j < k + 1 then foldN (f j) else f j) (v := foldN (f k)) hlt (fun j _ => by
        by_cases e : j = k
        · subst e; simp
        · rw [if_neg e]
          by_cases e2 : j < k
          · rw [if_pos e2, if_pos (by omega)]
          · rw [if_neg e2, if_neg (by omega)]))
      have HN : Hid (foldN (f k) = f k → FoldAt w n (fun j => if j < k + 1 then foldN (f j) else f j) wr) := hid (fun e => hA.congr (fun j _ => by
        by_cases e2 : j < k
        · rw [if_pos e2, if_pos (by omega)]
        · rw [if_neg e2]
          by_cases e3 : j = k
          · subst e3; rw [if_pos (by omega), e]
          · rw [if_neg (by omega)]))
      have HFN : Hid (∀ c, foldN c = if 65 ≤ c ∧ c ≤ 90 then c + 32 else c) := hid (fun _ => rfl)
      have HW : Hid (wrap64 ((k : Int) + 1) = (k : Int) + 1) := hid (by unfold wrap64; omega)
      clear hA
      generalize f k = c at *
      by_cases hc1 : 65 ≤ c
      · by_cases hc2 : c ≤ 90
        · go_wp2
          go_roundw
          case rel => exact ⟨k + 1, by omega, by go_num, HS.out.val (by rw [HFN.out, if_pos ⟨hc1, hc2⟩]; go_num)⟩
          case measure =>
            simp [intOf, HW.out]
            omega
        · go_wp2
          go_roundw
          case rel => exact ⟨k + 1, by omega, by go_num, HN.out (by rw [HFN.out, if_neg (by omega)])⟩
          case measure =>
            simp [intOf, HW.out]
            omega
      · go_wp2
        go_roundw
        case rel => exact ⟨k + 1, by omega, by go_num, HN.out (by rw [HFN.out, if_neg (by omega)])⟩
        case measure =>
          simp [intOf, HW.out]
          omega
    · obtain rfl : k = n := by omega
      have hA' := hA.congr (f' := fun j => foldN (f j)) (fun j hj => by simp [hj])
      have hbk := HBK.out wr hA'
      have HE := hid hA.below
      go_wp2
      go_ret
      exact ⟨rfl, HE.out⟩

set_option maxRecDepth 100000 in
set_option maxHeartbeats 1000000 in
theorem ref_Fold (s : ByteArray) (w : World) (hs : s.size ≤ 1099511627776) :
    Calls Tryd.prog 23 #[.string s] w (Ret w (.string (foldB s))) := by
  obtain ⟨cap, w1, hconv, hF⟩ := bytes_of w s
  have HF := hid hF
  have HBK := hid (fun W h => @bytes_back w W s h cap)
  have HB := hid (byteN_lt s)
  have hc0 := hconv w rfl
  clear hconv hF
  generalize byteN s = f at *
  generalize foldB s = r at *
  generalize s.size = n at *
  go_enter Tryd.func23, Tryd.ntmps23
  go_wp2
  go_loopw [9] (fun i wr => ∃ k : Nat, k ≤ n ∧ i = .int .i64 k ∧ FoldAt w n (fun j => if j < k then foldN (f j) else f j) wr) (fun i _ => n - (intOf i).toNat)
  case atStart => exact ⟨0, by omega, rfl, HF.out.congr (fun j _ => by simp)⟩
  case round =>
    obtain ⟨k, hk, rfl, hA⟩ := hrel
    by_cases hlt : k < n
    · have h1 : wr.cell? ⟨w.heap.size, k, none⟩ = some (.int .u8 ((f k : Nat) : Int)) := by
        have := hA.cell k hlt
        rwa [if_neg (Nat.lt_irrefl _)] at this
      have h2 := hA.froz k hlt
      have hb := HB.out k
      have HS := hid (hA.set (f' := fun j => if j < k + 1 then foldN (f j) else f j) (v := foldN (f k)) hlt (fun j _ => by
        by_cases e : j = k
        · subst e; simp
        · rw [if_neg e]
          by_cases e2 : j < k
          · rw [if_pos e2, if_pos (by omega)]
          · rw [if_neg e2, if_neg (by omega)]))
      have HN : Hid (foldN (f k) = f k → FoldAt w n (fun j => if j < k + 1 then foldN (f j) else f j) wr) := hid (fun e => hA.congr (fun j _ => by
        by_cases e2 : j < k
        · rw [if_pos e2, if_pos (by omega)]
        · rw [if_neg e2]
          by_cases e3 : j = k
          · subst e3; rw [if_pos (by omega), e]
          · rw [if_neg (by omega)]))
      have HFN : Hid (∀ c, foldN c = if 65 ≤ c ∧ c ≤ 90 then c + 32 else c) := hid (fun _ => rfl)
      have HW : Hid (wrap64 ((k : Int) + 1) = (k : Int) + 1) := hid (by unfold wrap64; omega)
      clear hA
      generalize f k = c at *
      by_cases hc1 : 65 ≤ c
      · by_cases hc2 : c ≤ 90
        · go_wp2
          go_roundw
          case rel => exact ⟨k + 1, by omega, by go_num, HS.out.val (by rw [HFN.out, if_pos ⟨hc1, hc2⟩]; go_num)⟩
          case measure =>
            simp [intOf, HW.out]
            omega
        · go_wp2
          go_roundw
          case rel => exact ⟨k + 1, by omega, by go_num, HN.out (by rw [HFN.out, if_neg (by omega)])⟩
          case measure =>
            simp [intOf, HW.out]
            omega
      · go_wp2
        go_roundw
        case rel => exact ⟨k + 1, by omega, by go_num, HN.out (by rw [HFN.out, if_neg (by omega)])⟩
        case measure =>
          simp [intOf, HW.out]
          omega
    · obtain rfl : k = n := by omega
      have hA' := hA.congr (f' := fun j => foldN (f j)) (fun j hj => by simp [hj])
      have hbk := HBK.out wr hA'
      have HE := hid hA.below
      go_wp2
      go_ret
      exact ⟨rfl, HE.out⟩

end Go.Proofs.YtdncdlcfgljheaaDoor
