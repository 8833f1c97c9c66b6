/- Contract of the reference's Lines. -/
import Derived.Test.YtdncdlcfgljheaaDoorSy
import Derived.Test.YtdncdlcfgljheaaDoorSl
import Derived.Test.YtdncdlcfgljheaaDoorLl
namespace Go.Proofs.YtdncdlcfgljheaaDoor
open Go.RowKit

theorem smap_snocW (xs : List ByteArray) (x : ByteArray) : xs.map Value.string ++ [.string x] = (xs ++ [x]).map Value.string := by simp

set_option maxRecDepth 100000 in
set_option maxHeartbeats 2000000 in
theorem ref_Lines (s : ByteArray) (w : World) (hs : s.size ≤ 1073741824) :
    Calls Tryd.prog 27 #[.string s] w (GivesS w (linesB s)) := by
  obtain ⟨i0, hi, hz0, hz1, hz2⟩ := info_parts info_str
  have HSK := hid (fun a k h1 h2 h3 => @lines_skip s a k h1 h2 h3)
  have HCU := hid (fun a k h1 h2 h3 => @lines_cut s a k h1 h2 h3)
  have HLA := hid (fun a h => @lines_last s a h)
  have H00 := hid (lines_start s)
  generalize linesB s = R at *
  go_enter Tryd.func27, Tryd.ntmps27
  go_wp2
  go_loopg [3, 4, 5] s.size (fun N v frm i wr => ∃ (k a : Nat) (acc : List ByteArray), s.size - k = N ∧ k ≤ s.size ∧ i = .int .i64 k ∧ frm = .int .i64 a ∧ a ≤ k ∧ acc.length ≤ k ∧ Hid (R = acc ++ linesM s a k) ∧
    wr.ownsRow w.heap.size 9 1 v acc.length (acc.map Value.string) ∧ Hid (Below w.heap.size w wr))
  case atStart => exact ⟨0, 0, [], by omega, by omega, rfl, rfl, by omega, by simp, hid (by rw [H00.out]; rfl), World.ownsRow_nil _ _ _ _, hid (Below.refl _ _)⟩
  case round =>
    obtain ⟨k, a, acc, rfl, hk, rfl, rfl, hak, hal, hrun, hown, HBL⟩ := hrel
    obtain ⟨a3, c3, rfl⟩ := own_slice hown
    have hbs := HBL.out.size
    by_cases hlt : k < s.size
    · have hc := byteN_lt s k
      have hik := hik_at s k (byteN s k) hlt rfl (k : Int) rfl
      have HSK1 := hid (HSK.out a k hak hlt)
      have HCU1 := hid (HCU.out a k hak hlt)
      by_cases h10 : byteN s k = 10
      · have hcut := HCU1.out h10
        rw [h10] at hik
        by_cases hak2 : a < k
        · have hd := byteN_lt s (k - 1)
          have hik2 := hik_at s (k - 1) (byteN s (k - 1)) (by omega) rfl ((k : Int) - 1) (by omega)
          by_cases h13 : byteN s (k - 1) = 13
          · rw [if_pos ⟨hak2, h13⟩] at hcut
            rw [h13] at hik2
            have HR := hid (hrun.out.trans (by rw [hcut]))
            clear hcut h13 h10 hrun hd hc
            go_wp2_with (at_builtin; refine wpList_append_own _ rfl _ _ 28 rfl (w.heap.size) 9 i0 (.string ⟨#[]⟩) 1 16 Tryd.underlying28 hi hz0 hz1 hz2 rfl (by decide) _ _ _ rfl (hown.alloc _) ⟨_, 0, none⟩ 1 1 [(.string (s.extract a (k - 1)))] rfl rfl (cell_one_new _ _ _) (by intro u hu; simp at hu; subst hu; rfl) (by unfold maxLen; omega) (by omega) (by simp; omega) ?_)
            intro v' w4 hown4 hgrow _
            have HB4 := hid (push_below HBL.out (by omega) hown hgrow)
            rw [smap_snocW] at hown4
            clear hgrow hown
            go_wp2
            go_roundg (s.size - (k + 1))
            case rel => exact ⟨k + 1, k + 1, acc ++ [s.extract a (k - 1)], by omega, by omega, by go_num, by go_num, by omega, by simp; omega, hid (by rw [HR.out]; simp), by simpa using hown4, HB4⟩
            case measure => omega
          · have hn : ¬ (a < k ∧ byteN s (k - 1) = 13) := fun h => h13 h.2
            rw [if_neg hn] at hcut
            have HR := hid (hrun.out.trans (by rw [hcut]))
            clear hcut h10 hrun hc hn
            generalize byteN s (k - 1) = d at *
            have hb2 : (((d : Nat) : Int) == 13) = false := by rw [beq_eq_false_iff_ne]; omega
            go_wp2_with (at_builtin; refine wpList_append_own _ rfl _ _ 28 rfl (w.heap.size) 9 i0 (.string ⟨#[]⟩) 1 16 Tryd.underlying28 hi hz0 hz1 hz2 rfl (by decide) _ _ _ rfl (hown.alloc _) ⟨_, 0, none⟩ 1 1 [(.string (s.extract a k))] rfl rfl (cell_one_new _ _ _) (by intro u hu; simp at hu; subst hu; rfl) (by unfold maxLen; omega) (by omega) (by simp; omega) ?_)
            intro v' w4 hown4 hgrow _
            have HB4 := hid (push_below HBL.out (by omega) hown hgrow)
            rw [smap_snocW] at hown4
            clear hgrow hown
            go_wp2
            go_roundg (s.size - (k + 1))
            case rel => exact ⟨k + 1, k + 1, acc ++ [s.extract a k], by omega, by omega, by go_num, by go_num, by omega, by simp; omega, hid (by rw [HR.out]; simp), by simpa using hown4, HB4⟩
            case measure => omega
        · have hn : ¬ (a < k ∧ byteN s (k - 1) = 13) := fun h => hak2 h.1
          rw [if_neg hn] at hcut
          have HR := hid (hrun.out.trans (by rw [hcut]))
          clear hcut h10 hrun hc hn
          go_wp2_with (at_builtin; refine wpList_append_own _ rfl _ _ 28 rfl (w.heap.size) 9 i0 (.string ⟨#[]⟩) 1 16 Tryd.underlying28 hi hz0 hz1 hz2 rfl (by decide) _ _ _ rfl (hown.alloc _) ⟨_, 0, none⟩ 1 1 [(.string (s.extract a k))] rfl rfl (cell_one_new _ _ _) (by intro u hu; simp at hu; subst hu; rfl) (by unfold maxLen; omega) (by omega) (by simp; omega) ?_)
          intro v' w4 hown4 hgrow _
          have HB4 := hid (push_below HBL.out (by omega) hown hgrow)
          rw [smap_snocW] at hown4
          clear hgrow hown
          go_wp2
          go_roundg (s.size - (k + 1))
          case rel => exact ⟨k + 1, k + 1, acc ++ [s.extract a k], by omega, by omega, by go_num, by go_num, by omega, by simp; omega, hid (by rw [HR.out]; simp), by simpa using hown4, HB4⟩
          case measure => omega
      · have HR := hid (hrun.out.trans (by rw [HSK1.out h10]))
        clear hrun
        generalize byteN s k = c at *
        have hb1 : (((c : Nat) : Int) == 10) = false := by rw [beq_eq_false_iff_ne]; omega
        have hb2 : (((c : Nat) : Int) != 10) = true := by rw [bne_iff_ne]; omega
        go_wp2
        go_roundg (s.size - (k + 1))
        case rel => exact ⟨k + 1, a, acc, by omega, by omega, by go_num, rfl, by omega, by omega, HR, hown, HBL⟩
        case measure => omega
    · obtain rfl : k = s.size := by omega
      have hla := HLA.out a hak
      by_cases hak2 : a < s.size
      · rw [if_pos hak2] at hla
        have HR := hid (hrun.out.trans (by rw [hla]))
        clear hla hrun
        go_wp2_with (at_builtin; refine wpList_append_own _ rfl _ _ 28 rfl (w.heap.size) 9 i0 (.string ⟨#[]⟩) 1 16 Tryd.underlying28 hi hz0 hz1 hz2 rfl (by decide) _ _ _ rfl (hown.alloc _) ⟨_, 0, none⟩ 1 1 [(.string (s.extract a s.size))] rfl rfl (cell_one_new _ _ _) (by intro u hu; simp at hu; subst hu; rfl) (by unfold maxLen; omega) (by omega) (by simp; omega) ?_)
        intro v' w4 hown4 hgrow _
        have HB4 := hid (push_below HBL.out (by omega) hown hgrow)
        rw [smap_snocW] at hown4
        obtain ⟨a4, c4, rfl⟩ := own_slice hown4
        clear hgrow hown
        go_wp2
        go_ret
        rw [HR.out]
        exact ⟨a4, c4, by simp [results, go_sem], by simpa using hown4, HB4.out⟩
      · rw [if_neg hak2] at hla
        have HR := hid (hrun.out.trans (by rw [hla, List.append_nil]))
        have HOWN := hid hown
        clear hla hrun hown
        go_wp2
        go_ret
        rw [HR.out]
        exact ⟨a3, c3, rfl, HOWN.out, HBL.out⟩

end Go.Proofs.YtdncdlcfgljheaaDoor
