/- Contracts of the reference's Same and Ints. -/
import Derived.Test.YtabemneoobbnaaaGreatDoorGt
namespace Go.Proofs.YtabemneoobbnaaaGreatDoor
open Go.RowKit

theorem ext_getD {xs ys : List ByteArray} (hl : xs.length = ys.length) (h : ∀ i, i < xs.length → xs.getD i ⟨#[]⟩ = ys.getD i ⟨#[]⟩) : xs = ys := by
  apply List.ext_getElem hl
  intro i h1 h2
  have := h i h1
  simpa [List.getD, h1, h2] using this

set_option maxHeartbeats 1000000 in
theorem ref_Same (va vb : Value) (xs ys : List ByteArray) (B : Nat) (w : World) (ha : RdS w B va xs) (hb : RdS w B vb ys) :
    Calls Tryz.prog 22 #[va, vb] w (Quiet w (.bool (decide (xs = ys)))) := by
  obtain ⟨a, c, rfl, hc, hm, hx⟩ := ha
  obtain ⟨b, d, rfl, hd, hn, hy⟩ := hb
  have HEX := hid (fun h1 h2 => @ext_getD xs ys h1 h2)
  have HNE : Hid (∀ i, i < xs.length → xs.getD i ⟨#[]⟩ ≠ ys.getD i ⟨#[]⟩ → decide (xs = ys) = false) := hid (fun i _ h => decide_eq_false (fun e => h (by rw [e])))
  by_cases hl : xs.length = ys.length
  · have HL := hid hl
    generalize hR : decide (xs = ys) = R at *
    have HR := hid hR
    rw [← hl] at hy ⊢
    rw [← hl] at hd
    clear hl hR
    have HX := hid hx
    have HY := hid hy
    clear hx hy
    unfold maxLen at hm hn
    generalize hlen : xs.length = n at *
    have HLEN := hid hlen
    clear hlen
    go_enter Tryz.func22, Tryz.ntmps22
    go_wp2
    go_loopw [13] (fun i w' => ∃ k : Nat, k ≤ n ∧ i = .int .i64 (k : Int) ∧ Hid (∀ i, i < k → xs.getD i ⟨#[]⟩ = ys.getD i ⟨#[]⟩) ∧ ∃ m, w' = w.drewN m) (fun i _ => n - (intOf i).toNat)
    case atStart => exact ⟨0, by omega, rfl, hid (fun i h => by omega), 0, rfl⟩
    case round =>
      obtain ⟨k, hk, rfl, hpre, m, rfl⟩ := hrel
      by_cases hlt : k < n
      · obtain ⟨b1, o1, rfl, hb1, hc1⟩ := HX.out (by omega)
        obtain ⟨b2, o2, rfl, hb2, hc2⟩ := HY.out (by omega)
        have p0 : w.cell? ⟨b1, o1 + k, none⟩ = some (.string (xs.getD k ⟨#[]⟩)) := hc1 k hlt
        have q0 : w.cell? ⟨b2, o2 + k, none⟩ = some (.string (ys.getD k ⟨#[]⟩)) := hc2 k hlt
        have HW : Hid (wrap64 ((k : Int) + 1) = (k : Int) + 1) := hid (by unfold wrap64; omega)
        have HNK := hid (HNE.out k hlt)
        have HPK := hid (fun (h : xs.getD k ⟨#[]⟩ = ys.getD k ⟨#[]⟩) (i : Nat) (hi : i < k + 1) => (show xs.getD i ⟨#[]⟩ = ys.getD i ⟨#[]⟩ from by
          rcases Nat.lt_or_ge i k with h1 | h1
          · exact hpre.out i h1
          · obtain rfl : i = k := by omega
            exact h))
        clear hc1 hc2
        generalize xs.getD k ⟨#[]⟩ = s at *
        generalize ys.getD k ⟨#[]⟩ = t at *
        by_cases hst : s = t
        · subst hst
          have h1 : (s.toList == s.toList) = true := by simp
          have h2 : (s.toList != s.toList) = false := by simp
          go_wp2
          go_quiet (fail)
          go_wp2
          go_roundw
          case rel => exact ⟨k + 1, by omega, by go_num, hid (HPK.out (by first | exact rfl | trivial)), _, rfl⟩
          case measure =>
            simp [intOf, HW.out]
            omega
        · have hne : s.toList ≠ t.toList := fun e => hst (bytes_ext e)
          have h1 : (s.toList == t.toList) = false := by simpa using hne
          have h2 : (s.toList != t.toList) = true := by simpa using hne
          have hRf := HNK.out hst
          subst hRf
          clear hst hne
          go_wp2
          go_quiet (fail)
          go_wp2
          go_ret
          exact ⟨rfl, m + nq, by simp⟩
      · obtain rfl : k = n := by omega
        have hRt : R = true := by rw [← HR.out]; exact decide_eq_true (HEX.out HL.out (fun i h => hpre.out i h))
        subst hRt
        go_wp2
        go_ret
        exact ⟨rfl, _, rfl⟩
  · have hR : decide (xs = ys) = false := decide_eq_false (fun e => hl (by rw [e]))
    rw [hR]
    have h1 : ((xs.length : Int) == (ys.length : Int)) = false := by simp; omega
    have h2 : ((xs.length : Int) != (ys.length : Int)) = true := by simp; omega
    generalize xs.length = n at *
    generalize ys.length = n' at *
    clear hx hy hl HEX HNE
    go_enter Tryz.func22, Tryz.ntmps22
    go_wp2
    go_ret
    exact ⟨rfl, 0, rfl⟩

end Go.Proofs.YtabemneoobbnaaaGreatDoor
