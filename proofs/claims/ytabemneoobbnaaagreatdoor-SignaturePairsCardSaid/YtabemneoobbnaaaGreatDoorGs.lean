/- Contracts of sets of texts: text.IsSet, the reference's Set. -/
import Derived.Test.YtabemneoobbnaaaGreatDoorRows
import Derived.Test.YtabemneoobbnaaaGreatDoorSt
namespace Go.Proofs.YtabemneoobbnaaaGreatDoor
open Go.RowKit

/-- a slice of texts -/
def RdS (w : World) (B : Nat) (v : Value) (xs : List ByteArray) : Prop := Rd w B v xs.length (strF xs)

set_option maxHeartbeats 1000000 in
theorem text_IsSet (v : Value) (xs : List ByteArray) (B : Nat) (w : World) (hv : RdS w B v xs) :
    Calls Tryz.prog 65 #[v] w (Quiet w (.bool (isSet xs))) := by
  obtain ⟨a, c, rfl, hc, hm, hx⟩ := hv
  have HI := hid (isSet_iff xs)
  have HF := hid (fun i => @isSet_false xs i)
  generalize isSet xs = F at *
  generalize hn : xs.length = n at *
  have HN := hid hn
  have HX := hid hx
  clear hn hx
  unfold maxLen at hm
  go_enter Tryz.func65, Tryz.ntmps65
  go_wp2
  go_loopw [3] (fun i w' => ∃ k : Nat, k ≤ n ∧ i = .int .i64 ((k : Int) + 1) ∧ Hid (∀ j, j < k → j + 1 < n → sl (xs.getD j ⟨#[]⟩) (xs.getD (j + 1) ⟨#[]⟩) = true) ∧ ∃ m, w' = w.drewN m) (fun i _ => n + 1 - (intOf i).toNat)
  case atStart => exact ⟨0, by omega, rfl, hid (fun j h => absurd h (by omega)), 0, rfl⟩
  case round =>
    obtain ⟨k, hk, rfl, hall, m, rfl⟩ := hrel
    by_cases hlt : k + 1 < n
    · obtain ⟨b, o, rfl, hb, hcell⟩ := HX.out (by omega)
      have h1 : w.cell? ⟨b, o + k, none⟩ = some (.string (xs.getD k ⟨#[]⟩)) := hcell k (by omega)
      have h2 : w.cell? ⟨b, o + (k + 1), none⟩ = some (.string (xs.getD (k + 1) ⟨#[]⟩)) := hcell (k + 1) (by omega)
      have HF1 := hid (fun h => HF.out (i := k) h)
      have HALL := hid (fun (h : sl (xs.getD k ⟨#[]⟩) (xs.getD (k + 1) ⟨#[]⟩) = true) (j : Nat) (hj : j < k + 1) (hj2 : j + 1 < n) => (show sl (xs.getD j ⟨#[]⟩) (xs.getD (j + 1) ⟨#[]⟩) = true from by
        rcases Nat.lt_or_ge j k with h3 | h3
        · exact hall.out j h3 hj2
        · obtain rfl : j = k := by omega
          exact h))
      clear hcell hall HF
      generalize hX : xs.getD k ⟨#[]⟩ = x at *
      generalize hY : xs.getD (k + 1) ⟨#[]⟩ = y at *
      clear hX hY
      cases hs : Op.bytesLess x.toList y.toList
      · have HS := hid hs
        go_wp2
        go_quiet (fail)
        go_wp2
        go_ret
        exact ⟨ret_bool (HF1.out (by omega) HS.out).symm, _, World.drewN_drewN _ _ _⟩
      · have HS := hid hs
        go_wp2
        go_quiet (fail)
        go_wp2
        go_roundw
        case rel => exact ⟨k + 1, by omega, by go_num, hid (HALL.out HS.out), _, rfl⟩
        case measure => simp [intOf]; omega
    · have hfin : F = true := HI.out.2 (fun i hi => hall.out i (by omega) (by omega))
      subst hfin
      go_wp2
      go_ret
      exact ⟨rfl, _, rfl⟩

end Go.Proofs.YtabemneoobbnaaaGreatDoor
