/- Contracts of the dice: Texts, Query. -/
import Derived.Test.YtabemneoobbnaaaGreatDoorGi
import Derived.Test.YtabemneoobbnaaaGreatDoorGt
namespace Go.Proofs.YtabemneoobbnaaaGreatDoor
open Go.RowKit

/-- Texts out of words, in new memory. -/
def TextsP (w : World) (g : Nat) (most : Int) (e : Ending) (w' : World) : Prop :=
  ∃ a c, ∃ xs : List ByteArray, e = .returned (.slice a xs.length c) ∧ w'.ownsRow w.heap.size 9 1 (.slice a xs.length c) xs.length (xs.map Value.string) ∧ (xs.length : Int) ≤ most ∧ (∀ x ∈ xs, x ∈ wordsL) ∧
    DiceAt 87 w' g ∧ Roll w.heap.size g w w'

theorem word_mem (r : Nat) (h : r < 16) : wordsL.getD r ⟨#[]⟩ ∈ wordsL := by
  have hl : r < wordsL.length := h
  simp [List.getD, hl]

set_option maxHeartbeats 1000000 in
theorem dice_Texts (g : Nat) (most : Int) (w : World) (hd : DiceAt 87 w g) (h0 : 0 ≤ most) (h1 : most ≤ 1048576) :
    Calls Tryz.prog 10 #[.pointer (some ⟨g, 0, none⟩), .int .i64 most] w (TextsP w g most) := by
  obtain ⟨i0, hi, hz0, hz1, hz2⟩ := info_parts info_str
  have hgl := hd.lt
  have HD := hid hd
  clear hd
  go_enter Tryz.func10, Tryz.ntmps10
  go_wp2_with fail
  with_reducible refine (dice_Pick g _ _ HD.out (by omega) (by omega)).mono ?_
  rintro e w1 ⟨m, rfl, hm, hd1, hr1, hs1⟩
  have HD1 := hid hd1
  have HR1 := hid hr1
  have HS1 := hid hs1
  clear hd1 hr1 hs1
  go_wp2
  go_loopg [6, 5] m (fun N i v wr => ∃ acc : List ByteArray, i = .int .i64 N ∧ ((acc.length + N : Nat) : Int) ≤ most ∧ wr.ownsRow w.heap.size 9 1 v acc.length (acc.map Value.string) ∧ Hid (∀ x ∈ acc, x ∈ wordsL) ∧
    DiceAt 87 wr g ∧ Roll w.heap.size g w wr)
  case atStart => exact ⟨[], rfl, by simp; omega, World.ownsRow_nil _ _ _ _, hid (by simp), HD1.out, HR1.out⟩
  case round =>
    obtain ⟨acc, rfl, hal, hown, hmem, hd2, hr2⟩ := hrel
    have HOWN := hid hown
    have HD2 := hid hd2
    have HR2 := hid hr2
    have hz2' := hr2.size
    obtain ⟨a5, c5, rfl⟩ := own_slice hown
    clear hown hd2 hr2
    by_cases hp : 0 < gk
    · go_wp2_with fail
      with_reducible refine (mill_Words _).mono ?_
      rintro e W1 ⟨rfl, rfl⟩
      go_wp2_with fail
      with_reducible refine (mill_Words _).mono ?_
      rintro e W2 ⟨rfl, rfl⟩
      go_wp2_with fail
      have hdw : DiceAt 87 ((wr.alloc (.cells wordsC 9)).alloc (.cells wordsC 9)) g := (HD2.out.alloc _).alloc _
      have hgw := HD2.out.lt
      have HC := hid (fun r h => words_cell wr r h)
      have hsz : ((wr.alloc (.cells wordsC 9)).alloc (.cells wordsC 9)).heap.size = wr.heap.size + 2 := by simp
      have HOW := hid ((HOWN.out.alloc (.cells wordsC 9)).alloc (.cells wordsC 9))
      have HRW := hid ((HR2.out.alloc (by omega) (.cells wordsC 9)).alloc (by simp; omega) (.cells wordsC 9))
      have HCW := hid (fun r (h : r < 16) => (World.cell?_alloc_lt (wr.alloc (.cells wordsC 9)) (.cells wordsC 9) ⟨wr.heap.size, r, none⟩ (by simp)).trans (HC.out r h))
      clear HC HOWN HR2
      with_reducible refine (dice_Pick g _ _ hdw (by omega) (by omega)).mono ?_
      clear hdw
      generalize (wr.alloc (.cells wordsC 9)).alloc (.cells wordsC 9) = W2 at *
      rintro e w3 ⟨r, rfl, hr, hd3, hr3, hs3⟩
      have hc3 : w3.cell? ⟨wr.heap.size, r, none⟩ = some (.string (wordsL.getD r ⟨#[]⟩)) := (hr3.cell (p := ⟨wr.heap.size, r, none⟩) (by show wr.heap.size < W2.heap.size; omega) (by show wr.heap.size ≠ g; omega)).trans (HCW.out r (by omega))
      have hown3 := own_roll HOW.out hr3 (Nat.le_refl _) (by omega)
      have HR3 := hid (HRW.out.trans (hr3.mono (by omega)))
      have HD3 := hid hd3
      have HMEM : Hid (wordsL.getD r ⟨#[]⟩ ∈ wordsL) := hid (word_mem r (by omega))
      have hz3 : w.heap.size ≤ w3.heap.size := by omega
      clear hr3 hd3 hs3
      generalize wordsL.getD r ⟨#[]⟩ = s at *
      go_wp2_with (at_builtin; refine wpList_append_own _ rfl _ _ 26 rfl (w.heap.size) 9 i0 (.string ⟨#[]⟩) 1 16 Tryz.underlying26 hi hz0 hz1 hz2 rfl (by decide) _ _ _ rfl (hown3.alloc _) ⟨_, 0, none⟩ 1 1 [(.string s)] rfl rfl (cell_one_new _ _ _) (by intro u hu; simp at hu; subst hu; rfl) (by unfold maxLen; omega) (by omega) (by simp; omega) ?_)
      intro v' w4 hown4 hgrow _
      have hgg : g < w3.heap.size := HD3.out.lt
      have HR4 := hid ((HR3.out.alloc (by omega) (.cells #[.string s] 9)).grown hgrow (by simp; omega) (fun k hk => (hown3.lt k hk).1))
      have HD4 := hid (HD3.out.keep (w' := w4) (fun k hk => by
        rw [hgrow.block k (by simp; omega) (fun e => by have := (hown3.lt k e.symm).1; omega), Below.heap_alloc _ _ _ (by omega)]))
      have hz4 := HR4.out.size
      have e4 : acc.map Value.string ++ [.string s] = (acc ++ [s]).map Value.string := by simp
      rw [e4] at hown4
      have HO4 := hid hown4
      clear e4 hown4 hgrow hown3
      go_wp2
      go_roundg (gk - 1)
      case rel => exact ⟨acc ++ [s], by go_num, by simp; omega, by simpa using HO4.out, hid (fun x hx => by
        rcases List.mem_append.1 hx with h | h
        · exact hmem.out x h
        · rw [List.mem_singleton.1 h]; exact HMEM.out), HD4.out, HR4.out⟩
      case measure => omega
    · obtain rfl : gk = 0 := by omega
      have HFIN : Hid (TextsP w g most (.returned (.slice a5 acc.length c5)) wr) := hid ⟨a5, c5, acc, rfl, HOWN.out, by simpa using hal, hmem.out, HD2.out, HR2.out⟩
      generalize acc.length = L at *
      go_wp2
      go_ret
      exact HFIN.out

/-- A set of words, in new memory. -/
def QueryP (w : World) (g : Nat) (most : Int) (e : Ending) (w' : World) : Prop :=
  ∃ a c, ∃ xs : List ByteArray, e = .returned (.slice a xs.length c) ∧ w'.ownsRow w.heap.size 9 1 (.slice a xs.length c) xs.length (xs.map Value.string) ∧ (xs.length : Int) ≤ most ∧ (∀ x ∈ xs, x ∈ wordsL) ∧ Asc xs ∧
    DiceAt 87 w' g ∧ Roll w.heap.size g w w'

end Go.Proofs.YtabemneoobbnaaaGreatDoor
