/- Contract of slices.BinarySearch at texts. -/
import Derived.Test.YtdncdlcfgljheaaCm
namespace Go.Proofs.Ytdncdlcfgljheaa
open Go.RowKit

set_option maxHeartbeats 400000 in
theorem lib_isNaN (s : ByteArray) (w : World) : Calls Try.prog 58 #[.string s] w (fun e w' => e = .returned (.bool false) ∧ w' = w) := by
  go_enter Try.func58, Try.ntmps58
  go_wp2
  go_ret
  exact ⟨by simp, rfl⟩

set_option maxHeartbeats 400000 in
theorem cmp_isNaN (s : ByteArray) (w : World) : Calls Try.prog 62 #[.string s] w (fun e w' => e = .returned (.bool false) ∧ w' = w) := by
  go_enter Try.func62, Try.ntmps62
  go_wp2
  go_ret
  exact ⟨by simp, rfl⟩
set_option maxHeartbeats 400000 in
theorem cmp_Less (s t : ByteArray) (w : World) : Calls Try.prog 57 #[.string s, .string t] w (fun e w' => e = .returned (.bool (sl s t)) ∧ w' = w) := by
  have hs : Op.bytesLess s.toList t.toList = sl s t := rfl
  generalize sl s t = F at *
  go_enter Try.func57, Try.ntmps57
  go_wp2_with fail
  with_reducible refine (cmp_isNaN _ _).mono ?_
  rintro e w1 ⟨rfl, rfl⟩
  go_wp2
  go_ret
  exact ⟨rfl, rfl⟩

def BinP (w : World) (F : Bool) (e : Ending) (w' : World) : Prop := ∃ p : Int, e = .returned (.tuple #[.int .i64 p, .bool F]) ∧ w' = w

theorem asc_lt {ys : List ByteArray} (h : Asc ys) {i j : Nat} (hij : i < j) (hj : j < ys.length) : sl (ys.getD i ⟨#[]⟩) (ys.getD j ⟨#[]⟩) = true := by
  have := List.pairwise_iff_getElem.1 h i j (by omega) hj hij
  simpa [List.getD, hj, show i < ys.length by omega] using this
theorem bin_found {ys : List ByteArray} {s : ByteArray} {a : Nat} (ha : a < ys.length) (h : ys.getD a ⟨#[]⟩ = s) : hasL ys s = true := (hasL_iff ys s).2 ((mem_getD ys s).2 ⟨a, ha, h⟩)
theorem bin_not {ys : List ByteArray} {s : ByteArray} (h : Asc ys) {a : Nat} (h1 : ∀ p, p < a → sl (ys.getD p ⟨#[]⟩) s = true) (h2 : a < ys.length → ys.getD a ⟨#[]⟩ ≠ s ∧ sl (ys.getD a ⟨#[]⟩) s = false) : hasL ys s = false := by
  cases hF : hasL ys s
  · rfl
  · obtain ⟨p, hp, e⟩ := (mem_getD ys s).1 ((hasL_iff ys s).1 hF)
    rcases Nat.lt_trichotomy p a with hlt | heq | hgt
    · have := h1 p hlt
      rw [e, sl_irrefl] at this
      cases this
    · subst heq
      exact absurd e (h2 hp).1
    · have h3 := asc_lt h hgt hp
      rw [e, (h2 (by omega)).2] at h3
      cases h3

set_option maxHeartbeats 2000000 in
theorem lib_BinarySearch (v : Value) (ys : List ByteArray) (s : ByteArray) (B : Nat) (w : World) (hv : RdS w B v ys) (hasc : Asc ys) (hlen : ys.length ≤ 1099511627776) :
    Calls Try.prog 53 #[v, .string s] w (BinP w (hasL ys s)) := by
  obtain ⟨a, c, rfl, hc, hm, hx⟩ := hv
  have HF := hid (fun a h1 h2 => @bin_found ys s a h1 h2)
  have HN := hid (fun a h1 h2 => @bin_not ys s hasc a h1 h2)
  have HA := hid (fun i j h1 h2 => @asc_lt ys hasc i j h1 h2)
  generalize hasL ys s = F at *
  generalize hn : ys.length = n at *
  have HX := hid hx
  clear hn hx
  unfold maxLen at hm
  go_enter Try.func53, Try.ntmps53
  go_wp2
  go_loopw [7, 8] (fun i j w' => ∃ p q : Nat, i = .int .i64 (p : Int) ∧ j = .int .i64 (q : Int) ∧ p ≤ q ∧ q ≤ n ∧ Hid (∀ x, x < p → sl (ys.getD x ⟨#[]⟩) s = true) ∧ Hid (q < n → sl (ys.getD q ⟨#[]⟩) s = false) ∧ w' = w) (fun i j _ => (intOf j).toNat - (intOf i).toNat)
  case atStart => exact ⟨0, n, rfl, rfl, by omega, by omega, hid (fun x h => absurd h (by omega)), hid (fun h => absurd h (by omega)), rfl⟩
  case round =>
    obtain ⟨p, q, rfl, rfl, hpq, hq, hlo, hhi, rfl⟩ := hrel
    by_cases hlt : p < q
    · obtain ⟨b, o, rfl, hb, hcell⟩ := HX.out (by omega)
      have hmn : (p + q) / 2 < n := by omega
      have h1 : wr.cell? ⟨b, o + (p + q) / 2, none⟩ = some (.string (ys.getD ((p + q) / 2) ⟨#[]⟩)) := hcell _ hmn
      have HUP : Hid (sl (ys.getD ((p + q) / 2) ⟨#[]⟩) s = true → ∀ x, x < (p + q) / 2 + 1 → sl (ys.getD x ⟨#[]⟩) s = true) := hid (fun h x hx => by
        rcases Nat.lt_or_ge x ((p + q) / 2) with h3 | h3
        · exact sl_trans (HA.out _ _ h3 hmn) h
        · obtain rfl : x = (p + q) / 2 := by omega
          exact h)
      have HDN : Hid (sl (ys.getD ((p + q) / 2) ⟨#[]⟩) s = false → (p + q) / 2 < n → sl (ys.getD ((p + q) / 2) ⟨#[]⟩) s = false) := hid (fun h _ => h)
      clear hcell
      generalize hX : ys.getD ((p + q) / 2) ⟨#[]⟩ = x at h1 HUP
      go_wp2_with fail
      with_reducible refine (cmp_Less x s _).mono ?_
      rintro e w1 ⟨rfl, rfl⟩
      cases hs : sl x s
      · have HS := hid (HDN.out (by rw [hX]; exact hs))
        clear HUP HDN hX
        go_wp2
        go_roundw
        case rel => exact ⟨p, (p + q) / 2, rfl, by go_num, by omega, by omega, hlo, HS, by first | rfl | trivial⟩
        case measure => simp [intOf]; omega
      · have HS := hid (HUP.out hs)
        clear HUP HDN hX
        go_wp2
        go_roundw
        case rel => exact ⟨(p + q) / 2 + 1, q, by go_num, rfl, by omega, by omega, HS, hhi, by first | rfl | trivial⟩
        case measure => simp [intOf]; omega
    · obtain rfl : p = q := by omega
      by_cases hpn : p < n
      · obtain ⟨b, o, rfl, hb, hcell⟩ := HX.out (by omega)
        have h1 : wr.cell? ⟨b, o + p, none⟩ = some (.string (ys.getD p ⟨#[]⟩)) := hcell p hpn
        have HY := hid (HF.out p hpn)
        have HNO := hid (fun h => HN.out p hlo.out (fun _ => ⟨h, hhi.out hpn⟩))
        clear hcell
        generalize ys.getD p ⟨#[]⟩ = x at *
        by_cases he : x = s
        · subst he
          have hF : F = true := HY.out rfl
          subst hF
          go_wp2
          go_ret2
          exact ⟨_, rfl, rfl⟩
        · have hne : (x.toList == s.toList) = false := by
            cases h : (x.toList == s.toList)
            · rfl
            · exact absurd (bytes_ext (by simpa using h)) he
          have hF : F = false := HNO.out he
          subst hF
          go_wp2_with fail
          with_reducible refine (lib_isNaN _ _).mono ?_
          rintro e w1 ⟨rfl, rfl⟩
          go_wp2
          go_ret2
          exact ⟨_, rfl, rfl⟩
      · have hF : F = false := HN.out p hlo.out (fun h => absurd h hpn)
        subst hF
        go_wp2
        go_ret2
        exact ⟨_, rfl, rfl⟩

end Go.Proofs.Ytdncdlcfgljheaa
