/- Contract of the dice's Field. -/
import Derived.Test.YtdncdlcfgljheaaDoorFi
namespace Go.Proofs.YtdncdlcfgljheaaDoor
open Go.RowKit Go.Shelf

theorem size_at {L : List ByteArray} {n : Nat} (h : ∀ x ∈ L, x.size ≤ n) {i : Nat} (hi : i < L.length) : (L.getD i ⟨#[]⟩).size ≤ n := by
  have : L.getD i ⟨#[]⟩ ∈ L := by simp [List.getD, hi]
  exact h _ this
theorem words_Small : ∀ x ∈ wordsL, Small 8 x := by decide
/-- the text of a field -/
def FieldP (w : World) (g k : Nat) (e : Ending) (w' : World) : Prop := ∃ t, e = .returned (.string t) ∧ t.size ≤ 30 ∧ (k < 6 → noNl t) ∧ DiceAt 55 w' g ∧ Roll w.heap.size g w w'

set_option maxRecDepth 100000 in
set_option maxHeartbeats 4000000 in
theorem dice_Field (g k : Nat) (hk : k < 9) (w : World) (hd : DiceAt 55 w g) :
    Calls Tryd.prog 10 #[.pointer (some ⟨g, 0, none⟩), .int .i64 (k : Int)] w (FieldP w g k) := by
  obtain ⟨w0, hw0⟩ : ∃ w0, w0 = w := ⟨_, rfl⟩
  rw [← hw0] at hd ⊢
  clear hw0
  have HD0 := hid hd
  have hgl := hd.lt
  have HR0 := hid (Roll.refl w0.heap.size g w0)
  clear hd
  rcases (show k = 0 ∨ k = 1 ∨ k = 2 ∨ k = 3 ∨ k = 4 ∨ k = 5 ∨ 6 ≤ k by omega) with rfl | rfl | rfl | rfl | rfl | rfl | h6
  · go_enter Tryd.func10, Tryd.ntmps10
    go_wp2_with fail
    with_reducible refine (mill_Words _).mono ?_
    rintro e W1 ⟨rfl, rfl⟩
    go_wp2_with fail
    with_reducible refine (mill_Words _).mono ?_
    rintro e W2 ⟨rfl, rfl⟩
    go_wp2_with fail
    have hdw : DiceAt 55 ((w0.alloc (.cells wordsC 9)).alloc (.cells wordsC 9)) g := (HD0.out.alloc _).alloc _
    have hrw : Roll w0.heap.size g w0 ((w0.alloc (.cells wordsC 9)).alloc (.cells wordsC 9)) := (HR0.out.alloc (Nat.le_refl _) _).alloc (by simp) _
    with_reducible refine (dice_Pick g _ _ hdw (by omega) (by omega)).mono ?_
    rintro e w1 ⟨m1, rfl, hm1, hd1, hr1, hs1⟩
    have hcw := (World.cell?_alloc_lt (w0.alloc (.cells wordsC 9)) (.cells wordsC 9) ⟨w0.heap.size, m1, none⟩ (by simp)).trans (words_cell w0 m1 (by omega))
    have c1 : w1.cell? ⟨w0.heap.size, m1, none⟩ = some (.string (wordsL.getD m1 ⟨#[]⟩)) := (hr1.cell (p := ⟨w0.heap.size, m1, none⟩) (by simp; omega) (by show w0.heap.size ≠ g; omega)).trans hcw
    have HS1 := hid (small_at words_Small (i := m1) (by show m1 < 16; omega))
    have HD1 := hid hd1
    have HR1 := hid (hrw.trans (hr1.mono (by simp; omega)))
    clear hdw hrw hd1 hr1 hs1 hcw
    generalize wordsL.getD m1 ⟨#[]⟩ = t1 at *
    go_wp2
    go_ret
    exact ⟨_, rfl, by have := HS1.out.1; omega, fun _ => HS1.out.2, HD1.out, HR1.out⟩
  · go_enter Tryd.func10, Tryd.ntmps10
    go_wp2_with fail
    with_reducible refine (dice_Number g _ HD0.out).mono ?_
    rintro e w1 ⟨t, rfl, hs1, hd1, hr1⟩
    have HS1 := hid hs1
    have HD1 := hid hd1
    have HR1 := hid hr1
    clear hs1 hd1 hr1
    go_wp2
    go_ret
    exact ⟨_, rfl, by have := HS1.out.1; omega, fun _ => HS1.out.2, HD1.out, HR1.out⟩
  · go_enter Tryd.func10, Tryd.ntmps10
    go_wp2_with fail
    with_reducible refine (dice_Date g _ HD0.out).mono ?_
    rintro e w1 ⟨t, rfl, hs1, hd1, hr1⟩
    have HS1 := hid hs1
    have HD1 := hid hd1
    have HR1 := hid hr1
    clear hs1 hd1 hr1
    go_wp2
    go_ret
    exact ⟨_, rfl, by have := HS1.out.1; omega, fun _ => HS1.out.2, HD1.out, HR1.out⟩
  · go_enter Tryd.func10, Tryd.ntmps10
    go_wp2_with fail
    have hd0' : DiceAt 55 (w0.alloc (.cells #[.string ⟨#[121, 101, 115]⟩, .string ⟨#[110, 111]⟩, .string ⟨#[84, 82, 85, 69]⟩, .string ⟨#[70, 97, 108, 115, 101]⟩, .string ⟨#[32, 121, 101, 115, 32]⟩] 9)) g := HD0.out.alloc _
    have hl0 := HD0.out.lt
    with_reducible refine (dice_Pick g 5 _ hd0' (by omega) (by omega)).mono ?_
    rintro e w1 ⟨m1, rfl, hm1, hd1, hr1, hs1⟩
    have c1 : w1.cell? ⟨w0.heap.size, m1, none⟩ = some (.string (L3.getD m1 ⟨#[]⟩)) := (hr1.cell (p := ⟨w0.heap.size, m1, none⟩) (by simp) (by show w0.heap.size ≠ g; omega)).trans (L3_cell w0 m1 (by omega))
    have HS1 := hid (small_at L3_small (i := m1) (by show m1 < 5; omega))
    have z1 := HS1.out.1
    have HD1 := hid hd1
    have HR1 := hid (HR0.out.trans (((Roll.refl w0.heap.size g w0).alloc (Nat.le_refl _) (.cells #[.string ⟨#[121, 101, 115]⟩, .string ⟨#[110, 111]⟩, .string ⟨#[84, 82, 85, 69]⟩, .string ⟨#[70, 97, 108, 115, 101]⟩, .string ⟨#[32, 121, 101, 115, 32]⟩] 9)).trans (hr1.mono (by simp)) |>.mono (by have := HR0.out.size; omega)))
    clear hd0' hd1 hr1 hs1
    generalize L3.getD m1 ⟨#[]⟩ = t1 at *
    go_wp2
    go_ret
    exact ⟨_, rfl, by omega, fun _ => HS1.out.2, HD1.out, HR1.out⟩
  · go_enter Tryd.func10, Tryd.ntmps10
    go_wp2_with fail
    with_reducible refine (dice_Number g _ HD0.out).mono ?_
    rintro e w1 ⟨t1, rfl, hs1, hd1, hr1⟩
    have HS1 := hid hs1
    have HD1 := hid hd1
    have HR1 := hid hr1
    have z1 := hs1.1
    clear hs1 hd1 hr1
    go_wp2_with fail
    have hd1' : DiceAt 55 (w1.alloc (.cells #[.string ⟨#[32, 107, 103]⟩, .string ⟨#[103]⟩, .string ⟨#[32, 107, 109]⟩, .string ⟨#[109]⟩, .string ⟨#[32, 109, 105, 110]⟩, .string ⟨#[37]⟩, .string ⟨#[32, 109, 109]⟩] 9)) g := HD1.out.alloc _
    have hl1 := HD1.out.lt
    with_reducible refine (dice_Pick g 7 _ hd1' (by omega) (by omega)).mono ?_
    rintro e w2 ⟨m2, rfl, hm2, hd2, hr2, hs2⟩
    have c2 : w2.cell? ⟨w1.heap.size, m2, none⟩ = some (.string (L4.getD m2 ⟨#[]⟩)) := (hr2.cell (p := ⟨w1.heap.size, m2, none⟩) (by simp) (by show w1.heap.size ≠ g; omega)).trans (L4_cell w1 m2 (by omega))
    have HS2 := hid (small_at L4_small (i := m2) (by show m2 < 7; omega))
    have z2 := HS2.out.1
    have HD2 := hid hd2
    have HR2 := hid (HR1.out.trans (((Roll.refl w1.heap.size g w1).alloc (Nat.le_refl _) (.cells #[.string ⟨#[32, 107, 103]⟩, .string ⟨#[103]⟩, .string ⟨#[32, 107, 109]⟩, .string ⟨#[109]⟩, .string ⟨#[32, 109, 105, 110]⟩, .string ⟨#[37]⟩, .string ⟨#[32, 109, 109]⟩] 9)).trans (hr2.mono (by simp)) |>.mono (by have := HR1.out.size; omega)))
    clear hd1' hd2 hr2 hs2
    generalize L4.getD m2 ⟨#[]⟩ = t2 at *
    go_wp2
    go_ret
    exact ⟨_, rfl, by have := (HS1.out.app HS2.out).1; omega, fun _ => (HS1.out.app HS2.out).2, HD2.out, HR2.out⟩
  · go_enter Tryd.func10, Tryd.ntmps10
    go_wp2_with fail
    have hd0' : DiceAt 55 (w0.alloc (.cells #[.string ⟨#[]⟩, .string ⟨#[32]⟩, .string ⟨#[78, 65]⟩, .string ⟨#[45]⟩, .string ⟨#[110, 111, 110, 101]⟩, .string ⟨#[63]⟩, .string ⟨#[110, 117, 108, 108]⟩] 9)) g := HD0.out.alloc _
    have hl0 := HD0.out.lt
    with_reducible refine (dice_Pick g 7 _ hd0' (by omega) (by omega)).mono ?_
    rintro e w1 ⟨m1, rfl, hm1, hd1, hr1, hs1⟩
    have c1 : w1.cell? ⟨w0.heap.size, m1, none⟩ = some (.string (L5.getD m1 ⟨#[]⟩)) := (hr1.cell (p := ⟨w0.heap.size, m1, none⟩) (by simp) (by show w0.heap.size ≠ g; omega)).trans (L5_cell w0 m1 (by omega))
    have HS1 := hid (small_at L5_small (i := m1) (by show m1 < 7; omega))
    have z1 := HS1.out.1
    have HD1 := hid hd1
    have HR1 := hid (HR0.out.trans (((Roll.refl w0.heap.size g w0).alloc (Nat.le_refl _) (.cells #[.string ⟨#[]⟩, .string ⟨#[32]⟩, .string ⟨#[78, 65]⟩, .string ⟨#[45]⟩, .string ⟨#[110, 111, 110, 101]⟩, .string ⟨#[63]⟩, .string ⟨#[110, 117, 108, 108]⟩] 9)).trans (hr1.mono (by simp)) |>.mono (by have := HR0.out.size; omega)))
    clear hd0' hd1 hr1 hs1
    generalize L5.getD m1 ⟨#[]⟩ = t1 at *
    go_wp2
    go_ret
    exact ⟨_, rfl, by omega, fun _ => HS1.out.2, HD1.out, HR1.out⟩
  · have e0 : ((k : Int) == 0) = false := by simp; omega
    have e1 : ((k : Int) == 1) = false := by simp; omega
    have e2 : ((k : Int) == 2) = false := by simp; omega
    have e3 : ((k : Int) == 3) = false := by simp; omega
    have e4 : ((k : Int) == 4) = false := by simp; omega
    have e5 : ((k : Int) == 5) = false := by simp; omega
    go_enter Tryd.func10, Tryd.ntmps10
    go_wp2_with fail
    have hd0' : DiceAt 55 (w0.alloc (.cells #[.string ⟨#[97, 44, 98]⟩, .string ⟨#[34, 113, 34]⟩, .string ⟨#[39]⟩, .string ⟨#[120, 59, 121]⟩, .string ⟨#[108, 10, 105]⟩, .string ⟨#[99, 13, 114]⟩, .string ⟨#[32, 112, 97, 100, 32]⟩, .string ⟨#[9]⟩, .string ⟨#[124]⟩, .string ⟨#[]⟩, .string ⟨#[195, 169]⟩, .string ⟨#[123]⟩, .string ⟨#[97, 34, 98]⟩, .string ⟨#[13, 10]⟩] 9)) g := HD0.out.alloc _
    have hl0 := HD0.out.lt
    with_reducible refine (dice_Pick g 14 _ hd0' (by omega) (by omega)).mono ?_
    rintro e w1 ⟨m1, rfl, hm1, hd1, hr1, hs1⟩
    have c1 : w1.cell? ⟨w0.heap.size, m1, none⟩ = some (.string (L6.getD m1 ⟨#[]⟩)) := (hr1.cell (p := ⟨w0.heap.size, m1, none⟩) (by simp) (by show w0.heap.size ≠ g; omega)).trans (L6_cell w0 m1 (by omega))
    have HS1 := hid (size_at L6_size (i := m1) (by show m1 < 14; omega))
    have z1 := HS1.out
    have HD1 := hid hd1
    have HR1 := hid (HR0.out.trans (((Roll.refl w0.heap.size g w0).alloc (Nat.le_refl _) (.cells #[.string ⟨#[97, 44, 98]⟩, .string ⟨#[34, 113, 34]⟩, .string ⟨#[39]⟩, .string ⟨#[120, 59, 121]⟩, .string ⟨#[108, 10, 105]⟩, .string ⟨#[99, 13, 114]⟩, .string ⟨#[32, 112, 97, 100, 32]⟩, .string ⟨#[9]⟩, .string ⟨#[124]⟩, .string ⟨#[]⟩, .string ⟨#[195, 169]⟩, .string ⟨#[123]⟩, .string ⟨#[97, 34, 98]⟩, .string ⟨#[13, 10]⟩] 9)).trans (hr1.mono (by simp)) |>.mono (by have := HR0.out.size; omega)))
    clear hd0' hd1 hr1 hs1
    generalize L6.getD m1 ⟨#[]⟩ = t1 at *
    go_wp2
    go_ret
    exact ⟨_, rfl, by omega, fun h => by omega, HD1.out, HR1.out⟩

end Go.Proofs.YtdncdlcfgljheaaDoor
