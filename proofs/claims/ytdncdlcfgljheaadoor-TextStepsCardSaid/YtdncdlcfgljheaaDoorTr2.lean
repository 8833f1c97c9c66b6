/- Contract of the reference's Tokens. -/
import Derived.Test.YtdncdlcfgljheaaDoorTw
namespace Go.Proofs.YtdncdlcfgljheaaDoor
open Go.RowKit Go.Lib

theorem extract_pre (s x : ByteArray) (a b : Nat) (hb : b ≤ s.size) : (s ++ x).extract a b = s.extract a b := by
  apply ByteArray.ext
  apply Array.ext'
  have h1 : b ≤ s.data.toList.length := by simpa using hb
  simp only [ByteArray.data_extract, ByteArray.data_append, Array.toList_extract, Array.toList_append]
  rw [List.extract_eq_take_drop, List.extract_eq_take_drop]
  simp
  rw [List.drop_append, List.take_append]
  simp
  omega
theorem byte_at (u : ByteArray) {j : Nat} (h : j < u.size) : (u[j]'h).toNat = byteN u j := by
  have h1 : j < u.data.toList.length := by simpa using h
  unfold byteN
  rw [List.getD, List.getElem?_eq_getElem h1]
  rfl
theorem byte_pre (s : ByteArray) {j : Nat} (h : j < (s ++ ⟨#[32]⟩).size) : ((s ++ ⟨#[32]⟩)[j]'h).toNat = byteS s j := by
  have hs : (s ++ (⟨#[32]⟩ : ByteArray)).size = s.size + 1 := by rw [ByteArray.size_append]; rfl
  rw [byte_at]
  unfold byteS byteN
  rw [ByteArray.data_append, Array.toList_append, List.getD, List.getD]
  by_cases hj : j < s.size
  · have hj' : j < s.data.toList.length := by simpa using hj
    rw [if_pos hj, List.getElem?_append_left hj']
  · rw [if_neg hj]
    obtain rfl : j = s.size := by omega
    have : s.size = s.data.toList.length := by rw [Array.length_toList]; rfl
    rw [this, List.getElem?_append_right (Nat.le_refl _)]
    simp

theorem runT_le (t : Nat → Nat) : ∀ k, (runT t k).1 ≤ k ∧ (runT t k).2.length ≤ k
  | 0 => ⟨Nat.le_refl _, Nat.le_refl _⟩
  | k + 1 => by
    have ih := runT_le t k
    show (stepT t k (runT t k)).1 ≤ _ ∧ (stepT t k (runT t k)).2.length ≤ _
    unfold stepT
    split
    · omega
    · simp only
      split
      · simp; omega
      · omega
theorem runT_step (t : Nat → Nat) (k a : Nat) (acc : List (Nat × Nat)) (h : runT t k = (a, acc)) : runT t (k + 1) = if inTok (t k) = true then (a, acc) else (k + 1, if a < k then acc ++ [(a, k)] else acc) := by
  show stepT t k (runT t k) = _
  rw [h]
  unfold stepT
  split <;> rfl

theorem tok_snoc (s : ByteArray) (acc : List (Nat × Nat)) (a k : Nat) : (acc.map fun x => Value.string (s.extract x.1 x.2)) ++ [.string (s.extract a k)] = ((acc ++ [(a, k)]).map fun x => Value.string (s.extract x.1 x.2)) := by simp

set_option maxRecDepth 100000 in
set_option maxHeartbeats 2000000 in
theorem ref_Tokens (s : ByteArray) (w : World) (hs : s.size ≤ 1073741824) :
    Calls Tryd.prog 25 #[.string s] w (GivesS w (toksB (foldB s))) := by
  obtain ⟨i0, hi, hz0, hz1, hz2⟩ := info_parts info_str
  have HF := hid (fun W => ref_Fold s W (by omega))
  have hsz : (foldB s).size ≤ 1073741824 := by rw [foldB_size]; omega
  generalize foldB s = t at *
  have hus : (t ++ (⟨#[32]⟩ : ByteArray)).size = t.size + 1 := by rw [ByteArray.size_append]; rfl
  have HBY : Hid (∀ j (h : j < (t ++ (⟨#[32]⟩ : ByteArray)).size), ((t ++ (⟨#[32]⟩ : ByteArray))[j]'h).toNat = byteS t j) := hid (fun j h => byte_pre t h)
  have HEX : Hid (∀ a b, b ≤ t.size → (t ++ (⟨#[32]⟩ : ByteArray)).extract a b = t.extract a b) := hid (fun a b h => extract_pre t _ a b h)
  have HFIN : Hid ((toksB t).map Value.string = ((runT (byteS t) (t.size + 1)).2.map fun x => Value.string (t.extract x.1 x.2)) ∧ (toksB t).length = (runT (byteS t) (t.size + 1)).2.length) := hid ⟨by unfold toksB tokSpans; rw [List.map_map]; rfl, by unfold toksB tokSpans; simp⟩
  generalize toksB t = R at *
  have HLT := hid (fun j => (show byteS t j < 256 from by unfold byteS; split; exact byteN_lt _ _; omega))
  have HST := hid (fun k a acc h => runT_step (byteS t) k a acc h)
  generalize hT : byteS t = T at *
  clear hT
  generalize hn : t.size = n at *
  generalize hgu : t ++ (⟨#[32]⟩ : ByteArray) = u at *
  have HU := hid hgu
  go_enter Tryd.func25, Tryd.ntmps25
  go_wp2_with fail
  with_reducible refine (HF.out _).mono ?_
  rintro e w1 ⟨rfl, hb1⟩
  have HB1 := hid hb1
  have hz1' := hb1.size
  clear hb1
  go_wp2
  clear hgu
  go_loopg [3, 4, 5] (n + 1) (fun N v frm i wr => ∃ (k a : Nat) (acc : List (Nat × Nat)), n + 1 - k = N ∧ k ≤ n + 1 ∧ i = .int .i64 k ∧ frm = .int .i64 a ∧ a ≤ k ∧ acc.length ≤ k ∧ Hid (runT T k = (a, acc)) ∧
    wr.ownsRow w.heap.size 9 1 v acc.length (acc.map fun x => Value.string (t.extract x.1 x.2)) ∧ Below w.heap.size w wr)
  case atStart => exact ⟨0, 0, [], by omega, by omega, rfl, rfl, by omega, by simp, hid rfl, World.ownsRow_nil _ _ _ _, HB1.out⟩
  case round =>
    obtain ⟨k, a, acc, rfl, hk, rfl, rfl, hak, hal, hrun, hown, hbl⟩ := hrel
    obtain ⟨a3, c3, rfl⟩ := own_slice hown
    have HBL := hid hbl
    have hbs := hbl.size
    by_cases hlt : k < n + 1
    · have hku : k < u.size := by omega
      have hix := HBY.out k hku
      have hc := HLT.out k
      have hstep := HST.out k a acc hrun.out
      have HEXK := HEX.out a k (by omega)
      have hIT : inTok (T k) = decide ((48 ≤ T k ∧ T k ≤ 57) ∨ (97 ≤ T k ∧ T k ≤ 122) ∨ 128 ≤ T k) := rfl
      rw [hIT] at hstep
      have HSTEP := hid hstep
      clear hstep hIT hbl
      generalize T k = c at *
      have hik : ∀ W, (Instr.index 9 (.string u) (.int .i64 (k : Int))).run Tryd.prog W = .ok (.int .u8 ((c : Nat) : Int)) W := fun W => by
        rw [run_index_string _ _ _ _ _ Tryd.underlying9, dif_pos ⟨by omega, by omega⟩]
        simp only [Int.toNat_natCast]
        rw [hix]
      by_cases h1 : 48 ≤ c
      · by_cases h2 : c ≤ 57
        · go_wp2
          go_roundg (n + 1 - (k + 1))
          case rel => exact ⟨k + 1, a, acc, by omega, by omega, by go_num, rfl, by omega, by omega, hid (HSTEP.out.trans (if_pos (decide_eq_true (by omega)))), hown, HBL.out⟩
          case measure => omega
        · by_cases h3 : 97 ≤ c
          · by_cases h4 : c ≤ 122
            · go_wp2
              go_roundg (n + 1 - (k + 1))
              case rel => exact ⟨k + 1, a, acc, by omega, by omega, by go_num, rfl, by omega, by omega, hid (HSTEP.out.trans (if_pos (decide_eq_true (by omega)))), hown, HBL.out⟩
              case measure => omega
            · by_cases h5 : 128 ≤ c
              · go_wp2
                go_roundg (n + 1 - (k + 1))
                case rel => exact ⟨k + 1, a, acc, by omega, by omega, by go_num, rfl, by omega, by omega, hid (HSTEP.out.trans (if_pos (decide_eq_true (by omega)))), hown, HBL.out⟩
                case measure => omega
              · by_cases hak2 : a < k
                · go_wp2_with (at_builtin; refine wpList_append_own _ rfl _ _ 28 rfl (w.heap.size) 9 i0 (.string ⟨#[]⟩) 1 16 Tryd.underlying28 hi hz0 hz1 hz2 rfl (by decide) _ _ _ rfl (hown.alloc _) ⟨_, 0, none⟩ 1 1 [(.string (t.extract a k))] rfl rfl (cell_one_new _ _ _) (by intro u hu; simp at hu; subst hu; rfl) (by unfold maxLen; omega) (by omega) (by simp; omega) ?_)
                  intro v' w4 hown4 hgrow _
                  have HB4 := hid (push_below HBL.out (by omega) hown hgrow)
                  rw [tok_snoc] at hown4
                  clear hgrow hown
                  go_wp2
                  go_roundg (n + 1 - (k + 1))
                  case rel => exact ⟨k + 1, k + 1, acc ++ [(a, k)], by omega, by omega, by go_num, by go_num, by omega, by simp; omega, hid (HSTEP.out.trans ((if_neg (by rw [decide_eq_true_eq]; omega)).trans (by rw [if_pos hak2]))), by simpa using hown4, HB4.out⟩
                  case measure => omega
                · go_wp2
                  go_roundg (n + 1 - (k + 1))
                  case rel => exact ⟨k + 1, k + 1, acc, by omega, by omega, by go_num, by go_num, by omega, by omega, hid (HSTEP.out.trans ((if_neg (by rw [decide_eq_true_eq]; omega)).trans (by rw [if_neg hak2]))), hown, HBL.out⟩
                  case measure => omega
          · by_cases hak2 : a < k
            · go_wp2_with (at_builtin; refine wpList_append_own _ rfl _ _ 28 rfl (w.heap.size) 9 i0 (.string ⟨#[]⟩) 1 16 Tryd.underlying28 hi hz0 hz1 hz2 rfl (by decide) _ _ _ rfl (hown.alloc _) ⟨_, 0, none⟩ 1 1 [(.string (t.extract a k))] rfl rfl (cell_one_new _ _ _) (by intro u hu; simp at hu; subst hu; rfl) (by unfold maxLen; omega) (by omega) (by simp; omega) ?_)
              intro v' w4 hown4 hgrow _
              have HB4 := hid (push_below HBL.out (by omega) hown hgrow)
              rw [tok_snoc] at hown4
              clear hgrow hown
              go_wp2
              go_roundg (n + 1 - (k + 1))
              case rel => exact ⟨k + 1, k + 1, acc ++ [(a, k)], by omega, by omega, by go_num, by go_num, by omega, by simp; omega, hid (HSTEP.out.trans ((if_neg (by rw [decide_eq_true_eq]; omega)).trans (by rw [if_pos hak2]))), by simpa using hown4, HB4.out⟩
              case measure => omega
            · go_wp2
              go_roundg (n + 1 - (k + 1))
              case rel => exact ⟨k + 1, k + 1, acc, by omega, by omega, by go_num, by go_num, by omega, by omega, hid (HSTEP.out.trans ((if_neg (by rw [decide_eq_true_eq]; omega)).trans (by rw [if_neg hak2]))), hown, HBL.out⟩
              case measure => omega
      · by_cases hak2 : a < k
        · go_wp2_with (at_builtin; refine wpList_append_own _ rfl _ _ 28 rfl (w.heap.size) 9 i0 (.string ⟨#[]⟩) 1 16 Tryd.underlying28 hi hz0 hz1 hz2 rfl (by decide) _ _ _ rfl (hown.alloc _) ⟨_, 0, none⟩ 1 1 [(.string (t.extract a k))] rfl rfl (cell_one_new _ _ _) (by intro u hu; simp at hu; subst hu; rfl) (by unfold maxLen; omega) (by omega) (by simp; omega) ?_)
          intro v' w4 hown4 hgrow _
          have HB4 := hid (push_below HBL.out (by omega) hown hgrow)
          rw [tok_snoc] at hown4
          clear hgrow hown
          go_wp2
          go_roundg (n + 1 - (k + 1))
          case rel => exact ⟨k + 1, k + 1, acc ++ [(a, k)], by omega, by omega, by go_num, by go_num, by omega, by simp; omega, hid (HSTEP.out.trans ((if_neg (by rw [decide_eq_true_eq]; omega)).trans (by rw [if_pos hak2]))), by simpa using hown4, HB4.out⟩
          case measure => omega
        · go_wp2
          go_roundg (n + 1 - (k + 1))
          case rel => exact ⟨k + 1, k + 1, acc, by omega, by omega, by go_num, by go_num, by omega, by omega, hid (HSTEP.out.trans ((if_neg (by rw [decide_eq_true_eq]; omega)).trans (by rw [if_neg hak2]))), hown, HBL.out⟩
          case measure => omega
    · obtain rfl : k = n + 1 := by omega
      have HOWN := hid hown
      rw [hrun.out] at HFIN
      clear hown hbl
      go_wp2
      go_ret
      refine ⟨a3, c3, ?_, ?_, HBL.out⟩
      · rw [HFIN.out.2]; rfl
      · rw [HFIN.out.1, HFIN.out.2]; exact HOWN.out

end Go.Proofs.YtdncdlcfgljheaaDoor
