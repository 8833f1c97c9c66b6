/- Contracts of the reference's Ints (at equal lists) and Valid. -/
import Derived.Test.YtdncdlcfgljheaaDoorGa
import Derived.Test.YtdncdlcfgljheaaDoorTx
namespace Go.Proofs.YtdncdlcfgljheaaDoor
open Go.RowKit

set_option maxHeartbeats 1000000 in
theorem ref_Ints (va vb : Value) (ps : List Nat) (B : Nat) (w : World) (ha : Rd w B va ps.length (natF ps)) (hb : Rd w B vb ps.length (natF ps)) :
    Calls Tryd.prog 20 #[va, vb] w (Quiet w (.bool true)) := by
  obtain ⟨a, c, rfl, hc, hm, hx⟩ := ha
  obtain ⟨b, d, rfl, hd, hn, hy⟩ := hb
  generalize ps.length = n at *
  have HX := hid hx
  have HY := hid hy
  clear hx hy
  unfold maxLen at hm hn
  go_enter Tryd.func20, Tryd.ntmps20
  go_wp2
  go_loopw [13] (fun i w' => ∃ k : Nat, k ≤ n ∧ i = .int .i64 (k : Int) ∧ ∃ m, w' = w.drewN m) (fun i _ => n - (intOf i).toNat)
  case atStart => exact ⟨0, by omega, rfl, 0, rfl⟩
  case round =>
    obtain ⟨k, hk, rfl, m, rfl⟩ := hrel
    by_cases hlt : k < n
    · obtain ⟨b1, o1, rfl, hb1, hc1⟩ := HX.out (by omega)
      obtain ⟨b2, o2, rfl, hb2, hc2⟩ := HY.out (by omega)
      have p0 : w.cell? ⟨b1, o1 + k, none⟩ = some (.int .i64 ((ps.getD k 0 : Nat) : Int)) := hc1 k hlt
      have q0 : w.cell? ⟨b2, o2 + k, none⟩ = some (.int .i64 ((ps.getD k 0 : Nat) : Int)) := hc2 k hlt
      have HW : Hid (wrap64 ((k : Int) + 1) = (k : Int) + 1) := hid (by unfold wrap64; omega)
      clear hc1 hc2
      generalize ((ps.getD k 0 : Nat) : Int) = x at *
      have h1 : (x == x) = true := by simp
      have h2 : (x != x) = false := by simp
      go_wp2
      go_quiet (fail)
      go_wp2
      go_roundw
      case rel => exact ⟨k + 1, by omega, by go_num, _, rfl⟩
      case measure =>
        simp [intOf, HW.out]
        omega
    · obtain rfl : k = n := by omega
      go_wp2
      go_ret
      exact ⟨rfl, _, rfl⟩

theorem ref_Valid (s : ByteArray) (w : World) (hs : s.size ≤ 1099511627776) (hT : Tabs w) : Calls Tryd.prog 19 #[.string s] w (Ret w (.bool (Lib.validD s.data.toList))) := by
  have HV : Hid (∀ W, Tabs W → Calls Tryd.prog 51 #[.string s] W (Ret W (.bool (Lib.validD s.data.toList)))) := hid (fun W h => Any.utf8_ValidString Tryd.lays196 s W (by omega) h)
  have HT := hid hT
  clear hT
  generalize Lib.validD s.data.toList = b at *
  go_enter Tryd.func19, Tryd.ntmps19
  go_wp2_with fail
  with_reducible refine (HV.out _ HT.out).mono ?_
  rintro e w1 ⟨rfl, hb1⟩
  have HB1 := hid hb1
  clear hb1
  go_wp2
  go_ret
  exact ⟨rfl, HB1.out⟩

end Go.Proofs.YtdncdlcfgljheaaDoor
