/- Contract of the dice's Rule. -/
import Derived.Test.YtdncdlcfgljheaaGx
namespace Go.Proofs.Ytdncdlcfgljheaa
open Go.RowKit

/-- the rules that dice give -/
def RuleOk (K L N D : Int) : Prop := (K = 1 ∧ L = 0 ∧ N = 0 ∧ D = 0) ∨ (K = 2 ∧ 0 ≤ L ∧ L ≤ 3 ∧ N = 0 ∧ D = 0) ∨ (K = 3 ∧ L = 0 ∧ 1 ≤ N ∧ N ≤ D ∧ D ≤ 4)
def RuleP (w : World) (g : Nat) (e : Ending) (w' : World) : Prop :=
  ∃ K L N D : Int, e = .returned (.agg #[.int .i64 K, .int .i64 L, .int .i64 N, .int .i64 D]) ∧ RuleOk K L N D ∧ DiceAt 41 w' g ∧ Roll w.heap.size g w w'

set_option maxHeartbeats 1000000 in
theorem dice_Rule (g : Nat) (w : World) (hd : DiceAt 41 w g) :
    Calls Try.prog 12 #[.pointer (some ⟨g, 0, none⟩)] w (RuleP w g) := by
  have hgl := hd.lt
  have HD := hid hd
  clear hd
  go_enter Try.func12, Try.ntmps12
  go_wp2_with fail
  have hd0 : DiceAt 41 (w.alloc (.cells #[.int .i64 0, .int .i64 0, .int .i64 0, .int .i64 0] 29)) g := HD.out.alloc _
  have hr0 : Roll w.heap.size g w (w.alloc (.cells #[.int .i64 0, .int .i64 0, .int .i64 0, .int .i64 0] 29)) := (Roll.refl _ _ _).alloc (Nat.le_refl _) _
  with_reducible refine (dice_Pick g _ _ hd0 (by omega) (by omega)).mono ?_
  rintro e w1 ⟨m, rfl, hm, hd1, hr1, hs1⟩
  have hcell : ∀ i, w1.cell? ⟨w.heap.size, i, none⟩ = (#[Value.int .i64 0, .int .i64 0, .int .i64 0, .int .i64 0])[i]? := fun i => by
    have hb := hr1.block w.heap.size (by simp) (by omega)
    have h0 := World.cell?_alloc_new (w := w) #[.int .i64 0, .int .i64 0, .int .i64 0, .int .i64 0] 29 i
    rw [← h0]
    unfold World.cell?
    rw [hb]
  have hfr : ∀ i, w1.frozen? ⟨w.heap.size, i, none⟩ = false := fun i => by
    have hb := hr1.block w.heap.size (by simp) (by omega)
    have h0 : (w.alloc (.cells #[.int .i64 0, .int .i64 0, .int .i64 0, .int .i64 0] 29)).frozen? ⟨w.heap.size, i, none⟩ = false := World.frozen?_alloc_at _ _ _ _ rfl
    rw [← h0]
    unfold World.frozen?
    rw [hb]
  have f0 := hfr 0
  have f1 := hfr 1
  have f2 := hfr 2
  have f3 := hfr 3
  have c0 := hcell 0
  have c1 := hcell 1
  have c2 := hcell 2
  have c3 := hcell 3
  simp at c0 c1 c2 c3
  have HR1 := hid (hr0.trans (hr1.mono (by simp)))
  have HD1 := hid hd1
  clear hd0 hr0 hr1 hd1 hcell hfr
  by_cases h0 : m = 0
  · subst h0
    go_wp2
    refine bodyPost_ret (by simp [results, Try.results12, go_sem, c0, c1, c2, c3]; rfl) rfl ?_
    exact ⟨1, 0, 0, 0, rfl, .inl ⟨rfl, rfl, rfl, rfl⟩, HD1.out.below (B := w.heap.size) (by have := Below.refl w.heap.size w1; repeat' (first | (with_reducible exact Below.refl _ _) | (with_reducible assumption) | (with_reducible refine below_drewN ?_) | (with_reducible refine Below.alloc ?_ ?_ _) | (with_reducible refine Below.drew ?_) | (with_reducible refine Below.setCell ?_ ?_ _) | (with_reducible refine Below.trans ?_ (Below.mono (by with_reducible assumption) ?_)) | go_size)) hgl, HR1.out.trans (Roll.of_below (by repeat' (first | (with_reducible exact Below.refl _ _) | (with_reducible assumption) | (with_reducible refine below_drewN ?_) | (with_reducible refine Below.alloc ?_ ?_ _) | (with_reducible refine Below.drew ?_) | (with_reducible refine Below.setCell ?_ ?_ _) | (with_reducible refine Below.trans ?_ (Below.mono (by with_reducible assumption) ?_)) | go_size)) g)⟩
  · have hz1 : w.heap.size < w1.heap.size := World.block_lt_of_cell? _ _ c0
    by_cases h1 : m = 1
    · subst h1
      go_wp2_with fail
      with_reducible refine (dice_Pick g _ _ HD1.out (by omega) (by omega)).mono ?_
      rintro e w2 ⟨m2, rfl, hm2, hd2, hr2, hs2⟩
      have xc0 := (hr2.cell (p := ⟨w.heap.size, 0, none⟩) (by have := World.block_lt_of_cell? _ _ c0; exact this) (by show w.heap.size ≠ g; omega)).trans c0
      have xc1 := (hr2.cell (p := ⟨w.heap.size, 1, none⟩) (by have := World.block_lt_of_cell? _ _ c1; exact this) (by show w.heap.size ≠ g; omega)).trans c1
      have xc2 := (hr2.cell (p := ⟨w.heap.size, 2, none⟩) (by have := World.block_lt_of_cell? _ _ c2; exact this) (by show w.heap.size ≠ g; omega)).trans c2
      have xc3 := (hr2.cell (p := ⟨w.heap.size, 3, none⟩) (by have := World.block_lt_of_cell? _ _ c3; exact this) (by show w.heap.size ≠ g; omega)).trans c3
      have xf0 := (hr2.frozen (p := ⟨w.heap.size, 0, none⟩) (by have := World.block_lt_of_cell? _ _ c0; exact this) (by show w.heap.size ≠ g; omega)).trans f0
      have xf1 := (hr2.frozen (p := ⟨w.heap.size, 1, none⟩) (by have := World.block_lt_of_cell? _ _ c1; exact this) (by show w.heap.size ≠ g; omega)).trans f1
      have xf2 := (hr2.frozen (p := ⟨w.heap.size, 2, none⟩) (by have := World.block_lt_of_cell? _ _ c2; exact this) (by show w.heap.size ≠ g; omega)).trans f2
      have xf3 := (hr2.frozen (p := ⟨w.heap.size, 3, none⟩) (by have := World.block_lt_of_cell? _ _ c3; exact this) (by show w.heap.size ≠ g; omega)).trans f3
      have HR2 := hid (HR1.out.trans (hr2.mono (by omega)))
      have HD2 := hid hd2
      clear hr2 hd2 c0 c1 c2 c3 f0 f1 f2 f3
      go_wp2
      refine bodyPost_ret (by simp [results, Try.results12, go_sem, xc0, xc1, xc2, xc3]; rfl) rfl ?_
      exact ⟨2, m2, 0, 0, rfl, .inr (.inl ⟨rfl, by omega, by omega, rfl, rfl⟩), HD2.out.below (B := w.heap.size) (by repeat' (first | (with_reducible exact Below.refl _ _) | (with_reducible assumption) | (with_reducible refine below_drewN ?_) | (with_reducible refine Below.alloc ?_ ?_ _) | (with_reducible refine Below.drew ?_) | (with_reducible refine Below.setCell ?_ ?_ _) | (with_reducible refine Below.trans ?_ (Below.mono (by with_reducible assumption) ?_)) | go_size)) hgl, HR2.out.trans (Roll.of_below (by repeat' (first | (with_reducible exact Below.refl _ _) | (with_reducible assumption) | (with_reducible refine below_drewN ?_) | (with_reducible refine Below.alloc ?_ ?_ _) | (with_reducible refine Below.drew ?_) | (with_reducible refine Below.setCell ?_ ?_ _) | (with_reducible refine Below.trans ?_ (Below.mono (by with_reducible assumption) ?_)) | go_size)) g)⟩
    · go_wp2_with fail
      with_reducible refine (dice_Pick g _ _ HD1.out (by omega) (by omega)).mono ?_
      rintro e w2 ⟨m2, rfl, hm2, hd2, hr2, hs2⟩
      have xc0 := (hr2.cell (p := ⟨w.heap.size, 0, none⟩) (by have := World.block_lt_of_cell? _ _ c0; exact this) (by show w.heap.size ≠ g; omega)).trans c0
      have xc1 := (hr2.cell (p := ⟨w.heap.size, 1, none⟩) (by have := World.block_lt_of_cell? _ _ c1; exact this) (by show w.heap.size ≠ g; omega)).trans c1
      have xc2 := (hr2.cell (p := ⟨w.heap.size, 2, none⟩) (by have := World.block_lt_of_cell? _ _ c2; exact this) (by show w.heap.size ≠ g; omega)).trans c2
      have xc3 := (hr2.cell (p := ⟨w.heap.size, 3, none⟩) (by have := World.block_lt_of_cell? _ _ c3; exact this) (by show w.heap.size ≠ g; omega)).trans c3
      have xf0 := (hr2.frozen (p := ⟨w.heap.size, 0, none⟩) (by have := World.block_lt_of_cell? _ _ c0; exact this) (by show w.heap.size ≠ g; omega)).trans f0
      have xf1 := (hr2.frozen (p := ⟨w.heap.size, 1, none⟩) (by have := World.block_lt_of_cell? _ _ c1; exact this) (by show w.heap.size ≠ g; omega)).trans f1
      have xf2 := (hr2.frozen (p := ⟨w.heap.size, 2, none⟩) (by have := World.block_lt_of_cell? _ _ c2; exact this) (by show w.heap.size ≠ g; omega)).trans f2
      have xf3 := (hr2.frozen (p := ⟨w.heap.size, 3, none⟩) (by have := World.block_lt_of_cell? _ _ c3; exact this) (by show w.heap.size ≠ g; omega)).trans f3
      have HR2 := hid (HR1.out.trans (hr2.mono (by omega)))
      have HD2 := hid hd2
      clear hr2 hd2 c0 c1 c2 c3 f0 f1 f2 f3
      go_wp2_with fail
      with_reducible refine (dice_Pick g _ _ HD2.out (by omega) (by omega)).mono ?_
      rintro e w3 ⟨m3, rfl, hm3, hd3, hr3, hs3⟩
      have hz2 : w.heap.size < w2.heap.size := World.block_lt_of_cell? _ _ xc0
      have yc0 := (hr3.cell (p := ⟨w.heap.size, 0, none⟩) (by have := World.block_lt_of_cell? _ _ xc0; exact this) (by show w.heap.size ≠ g; omega)).trans xc0
      have yc1 := (hr3.cell (p := ⟨w.heap.size, 1, none⟩) (by have := World.block_lt_of_cell? _ _ xc1; exact this) (by show w.heap.size ≠ g; omega)).trans xc1
      have yc2 := (hr3.cell (p := ⟨w.heap.size, 2, none⟩) (by have := World.block_lt_of_cell? _ _ xc2; exact this) (by show w.heap.size ≠ g; omega)).trans xc2
      have yc3 := (hr3.cell (p := ⟨w.heap.size, 3, none⟩) (by have := World.block_lt_of_cell? _ _ xc3; exact this) (by show w.heap.size ≠ g; omega)).trans xc3
      have yf0 := (hr3.frozen (p := ⟨w.heap.size, 0, none⟩) (by have := World.block_lt_of_cell? _ _ xc0; exact this) (by show w.heap.size ≠ g; omega)).trans xf0
      have yf1 := (hr3.frozen (p := ⟨w.heap.size, 1, none⟩) (by have := World.block_lt_of_cell? _ _ xc1; exact this) (by show w.heap.size ≠ g; omega)).trans xf1
      have yf2 := (hr3.frozen (p := ⟨w.heap.size, 2, none⟩) (by have := World.block_lt_of_cell? _ _ xc2; exact this) (by show w.heap.size ≠ g; omega)).trans xf2
      have yf3 := (hr3.frozen (p := ⟨w.heap.size, 3, none⟩) (by have := World.block_lt_of_cell? _ _ xc3; exact this) (by show w.heap.size ≠ g; omega)).trans xf3
      have HR3 := hid (HR2.out.trans (hr3.mono (by omega)))
      have HD3 := hid hd3
      clear hr3 hd3 xc0 xc1 xc2 xc3 xf0 xf1 xf2 xf3
      go_wp2
      refine bodyPost_ret (by simp [results, Try.results12, go_sem, yc0, yc1, yc2, yc3]; rfl) rfl ?_
      exact ⟨3, 0, 1 + m3, 1 + m2, rfl, .inr (.inr ⟨rfl, rfl, by omega, by omega, by omega⟩), HD3.out.below (B := w.heap.size) (by repeat' (first | (with_reducible exact Below.refl _ _) | (with_reducible assumption) | (with_reducible refine below_drewN ?_) | (with_reducible refine Below.alloc ?_ ?_ _) | (with_reducible refine Below.drew ?_) | (with_reducible refine Below.setCell ?_ ?_ _) | (with_reducible refine Below.trans ?_ (Below.mono (by with_reducible assumption) ?_)) | go_size)) hgl, HR3.out.trans (Roll.of_below (by repeat' (first | (with_reducible exact Below.refl _ _) | (with_reducible assumption) | (with_reducible refine below_drewN ?_) | (with_reducible refine Below.alloc ?_ ?_ _) | (with_reducible refine Below.drew ?_) | (with_reducible refine Below.setCell ?_ ?_ _) | (with_reducible refine Below.trans ?_ (Below.mono (by with_reducible assumption) ?_)) | go_size)) g)⟩

end Go.Proofs.Ytdncdlcfgljheaa
