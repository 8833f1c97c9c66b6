/- Contracts of sets of texts: the reference's IsSet, Has, Common, Union, Tokens. -/
import Derived.Test.YtabemneoobbnaaaGreatDoorGt
namespace Go.Proofs.YtabemneoobbnaaaGreatDoor
open Go.RowKit

def hasL (xs : List ByteArray) (s : ByteArray) : Bool := xs.any fun x => x.toList == s.toList
theorem hasL_iff (xs : List ByteArray) (s : ByteArray) : hasL xs s = true ↔ s ∈ xs := by
  unfold hasL
  rw [List.any_eq_true]
  constructor
  · rintro ⟨x, hx, h⟩
    have := bytes_ext (by simpa using h : x.toList = s.toList)
    subst this
    exact hx
  · intro h; exact ⟨s, h, by simp⟩
/-- how many texts of a list another list has -/
def commonL (xs ys : List ByteArray) : Nat := (xs.filter (hasL ys)).length
theorem commonL_le (xs ys : List ByteArray) : commonL xs ys ≤ xs.length := List.length_filter_le _ _
theorem common_take (xs ys : List ByteArray) {k : Nat} (h : k < xs.length) : commonL (xs.take (k + 1)) ys = if hasL ys (xs.getD k ⟨#[]⟩) = true then commonL (xs.take k) ys + 1 else commonL (xs.take k) ys := by
  unfold commonL
  rw [List.take_succ_eq_append_getElem h, List.filter_append, List.length_append]
  have e : xs.getD k ⟨#[]⟩ = xs[k] := by simp [List.getD, h]
  rw [e, List.filter_cons, List.filter_nil]
  split <;> simp_all

theorem mem_getD (xs : List ByteArray) (s : ByteArray) : s ∈ xs ↔ ∃ i, i < xs.length ∧ xs.getD i ⟨#[]⟩ = s := by
  rw [List.mem_iff_getElem]
  constructor
  · rintro ⟨i, h, e⟩; exact ⟨i, h, by simpa [List.getD, h] using e⟩
  · rintro ⟨i, h, e⟩; exact ⟨i, h, by simpa [List.getD, h] using e⟩

set_option maxHeartbeats 1000000 in
theorem ref_Has (v : Value) (xs : List ByteArray) (s : ByteArray) (B : Nat) (w : World) (hv : RdS w B v xs) :
    Calls Tryz.prog 12 #[v, .string s] w (Quiet w (.bool (hasL xs s))) := by
  obtain ⟨a, c, rfl, hc, hm, hx⟩ := hv
  have HM := hid (mem_getD xs s)
  generalize hD : hasL xs s = F
  have HD : Hid (s ∈ xs ↔ F = true) := hid (by rw [← hD, hasL_iff])
  clear hD
  generalize hn : xs.length = n at *
  have HX := hid hx
  clear hn hx
  unfold maxLen at hm
  go_enter Tryz.func12, Tryz.ntmps12
  go_wp2
  go_loopw [9] (fun i w' => ∃ k : Nat, k ≤ n ∧ i = .int .i64 (k : Int) ∧ Hid (∀ j, j < k → xs.getD j ⟨#[]⟩ ≠ s) ∧ w' = w) (fun i _ => n - (intOf i).toNat)
  case atStart => exact ⟨0, by omega, rfl, hid (fun j h => absurd h (by omega)), rfl⟩
  case round =>
    obtain ⟨k, hk, rfl, hall, rfl⟩ := hrel
    by_cases hlt : k < n
    · obtain ⟨b, o, rfl, hb, hcell⟩ := HX.out (by omega)
      have h1 : wr.cell? ⟨b, o + k, none⟩ = some (.string (xs.getD k ⟨#[]⟩)) := hcell k (by omega)
      have HALL := hid (fun (h : xs.getD k ⟨#[]⟩ ≠ s) (j : Nat) (hj : j < k + 1) => (show xs.getD j ⟨#[]⟩ ≠ s from by
        rcases Nat.lt_or_ge j k with h3 | h3
        · exact hall.out j h3
        · obtain rfl : j = k := by omega
          exact h))
      have HYES := hid (fun (h : xs.getD k ⟨#[]⟩ = s) => HD.out.1 (HM.out.2 ⟨k, hlt, h⟩))
      have HW : Hid (wrap64 ((k : Int) + 1) = (k : Int) + 1) := hid (by unfold wrap64; omega)
      clear hcell hall
      generalize xs.getD k ⟨#[]⟩ = x at *
      by_cases he : x = s
      · subst he
        have HY := hid (HYES.out rfl)
        go_wp2
        go_ret
        exact ⟨ret_bool HY.out.symm, 0, rfl⟩
      · have hne : (x.toList == s.toList) = false := by
          cases h : (x.toList == s.toList)
          · rfl
          · exact absurd (bytes_ext (by simpa using h)) he
        go_wp2
        go_roundw
        case rel => exact ⟨k + 1, by omega, by go_num, hid (HALL.out he), by first | rfl | trivial⟩
        case measure =>
          simp [intOf, HW.out]
          omega
    · have hfin : F = false := by
        cases hF : F
        · rfl
        · obtain ⟨i, hi, e⟩ := HM.out.1 (HD.out.2 hF)
          exact absurd e (hall.out i (by omega))
      subst hfin
      go_wp2
      go_ret
      exact ⟨rfl, 0, rfl⟩

end Go.Proofs.YtabemneoobbnaaaGreatDoor
