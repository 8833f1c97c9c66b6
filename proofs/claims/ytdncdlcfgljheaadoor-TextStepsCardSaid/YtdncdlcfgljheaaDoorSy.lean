/- Contract of the reference's Trim: the walk. -/
import Derived.Test.YtdncdlcfgljheaaDoorSx
namespace Go.Proofs.YtdncdlcfgljheaaDoor
open Go.RowKit

theorem hik_at (u : ByteArray) (k c : Nat) (h : k < u.size) (hc : byteN u k = c) (z : Int) (hz : z = (k : Int)) : ∀ W, (Instr.index 9 (.string u) (.int .i64 z)).run Tryd.prog W = .ok (.int .u8 ((c : Nat) : Int)) W := fun W => by
  subst hz
  rw [run_index_string _ _ _ _ _ Tryd.underlying9, dif_pos ⟨by omega, by omega⟩]
  simp only [Int.toNat_natCast]
  rw [byte_at u h, hc]

set_option maxHeartbeats 2000000 in
theorem ref_Trim (s : ByteArray) (w : World) (hs : s.size ≤ 1099511627776) :
    Calls Tryd.prog 24 #[.string s] w (Quiet w (.string (trimS s))) := by
  go_enter Tryd.func24, Tryd.ntmps24
  go_wp2
  go_loopg [0] s.size (fun M v wr => ∃ cur : ByteArray, cur.size = M ∧ v = .string cur ∧ cur.size ≤ s.size ∧ Hid (trimS cur = trimS s) ∧ ∃ m, wr = w.drewN m)
  case atStart => exact ⟨s, rfl, rfl, Nat.le_refl _, hid rfl, 0, rfl⟩
  case round =>
    obtain ⟨cur, rfl, rfl, hcs, HTR, m, rfl⟩ := hrel
    by_cases h0 : 0 < cur.size
    · by_cases h1 : byteN cur 0 = 32
      · have hik := hik_at cur 0 32 h0 h1 0 rfl
        have HN := hid ((trim_front cur h0 h1).trans HTR.out)
        have hz : (cur.extract 1 cur.size).size = cur.size - 1 := by rw [ByteArray.size_extract]; omega
        clear h1
        go_wp2
        go_roundg (cur.size - 1)
        case rel => exact ⟨cur.extract 1 cur.size, hz, rfl, by omega, HN, m, rfl⟩
        case measure => omega
      · have hne : ((byteN cur 0 : Nat) : Int) ≠ 32 := by omega
        have hlt := byteN_lt cur 0
        have hik := hik_at cur 0 (byteN cur 0) h0 rfl 0 rfl
        generalize hc : byteN cur 0 = c at *
        have hb : (((c : Nat) : Int) == 32) = false := by rw [beq_eq_false_iff_ne]; exact hne
        go_wp2
        go_loopg [0] cur.size (fun M v wr => ∃ cur2 : ByteArray, cur2.size = M ∧ v = .string cur2 ∧ cur2.size ≤ s.size ∧ Hid (trimS cur2 = trimS s) ∧ Hid (0 < cur2.size → byteN cur2 0 = c) ∧ ∃ m, wr = w.drewN m)
        case atStart => exact ⟨cur, rfl, rfl, hcs, HTR, hid (fun _ => hc), m, rfl⟩
        case round =>
          obtain ⟨cur2, rfl, rfl, hcs2, HTR2, HC2, m2, rfl⟩ := hrel
          by_cases h2 : 0 < cur2.size
          · have HFX := hid (trim_fix cur2 (fun h => by rw [HC2.out h]; omega))
            have hlt2 := byteN_lt cur2 (cur2.size - 1)
            have hik2 := hik_at cur2 (cur2.size - 1) (byteN cur2 (cur2.size - 1)) (by omega) rfl ((cur2.size : Int) - 1) (by omega)
            have HBK := hid (fun h => (trim_back cur2 h2 h).trans HTR2.out)
            have HB1 : Hid (cur2.size - 1 = 0 → byteN cur2 (cur2.size - 1) = c) := hid (fun h => by rw [h]; exact HC2.out h2)
            have HB2 : Hid (0 < cur2.size - 1 → byteN (cur2.extract 0 (cur2.size - 1)) 0 = c) := hid (fun h => by rw [byteN_extract _ _ h]; exact HC2.out h2)
            have hz : (cur2.extract 0 (cur2.size - 1)).size = cur2.size - 1 := by rw [ByteArray.size_extract]; omega
            clear hik hc
            generalize byteN cur2 (cur2.size - 1) = d at *
            by_cases h3 : d = 32
            · have hb2 : (((d : Nat) : Int) == 32) = true := by rw [beq_iff_eq]; omega
              have HN := hid (HBK.out h3)
              go_wp2
              go_roundg (cur2.size - 1)
              case rel => exact ⟨cur2.extract 0 (cur2.size - 1), hz, rfl, by omega, HN, hid (fun h => HB2.out (by omega)), m2, rfl⟩
              case measure => omega
            · have hb2 : (((d : Nat) : Int) == 32) = false := by rw [beq_eq_false_iff_ne]; omega
              have HF := hid ((HFX.out (fun _ => h3)).symm.trans HTR2.out)
              go_wp2
              go_ret
              exact ⟨by show Ending.returned (.string cur2) = _; rw [HF.out], m2, rfl⟩
          · have HF := hid ((trim_fix cur2 (fun h => absurd h h2) (fun h => absurd h h2)).symm.trans HTR2.out)
            go_wp2
            go_ret
            exact ⟨by show Ending.returned (.string cur2) = _; rw [HF.out], m2, rfl⟩
    · have HF := hid ((trim_fix cur (fun h => absurd h h0) (fun h => absurd h h0)).symm.trans HTR.out)
      go_wp2
      refine wp_loop_rounds 1 ?_
      rw [rounds_succ]
      go_wp2
      go_ret
      exact ⟨by show Ending.returned (.string cur) = _; rw [HF.out], m, rfl⟩

end Go.Proofs.YtdncdlcfgljheaaDoor
