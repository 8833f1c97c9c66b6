/- Contracts of signature.Prefix, Overlap. -/
import Derived.Test.YtabemneoobbnaaaGreatDoorNo
import Derived.Test.YtabemneoobbnaaaGreatDoorKc
import Derived.BigQuiet
namespace Go.Proofs.YtabemneoobbnaaaGreatDoor
open Go.RowKit

set_option maxHeartbeats 400000 in
theorem sig_Prefix (n need : Nat) (w : World) (h1 : n ≤ 1099511627776) (h2 : need ≤ 1099511627776) : Calls Tryz.prog 39 #[.int .i64 (n : Int), .int .i64 (need : Int)] w fun e w' => e = .returned (.int .i64 ((prefL n need : Nat) : Int)) ∧ w' = w := by
  have HC : Hid (prefL n need = if need < 1 ∨ n < need then 0 else n - need + 1) := hid rfl
  generalize prefL n need = p at *
  go_enter Tryz.func39, Tryz.ntmps39
  by_cases h3 : need < 1
  · go_wp2
    go_ret
    exact ⟨ret_int (by rw [HC.out, if_pos (by omega)]; rfl), rfl⟩
  · by_cases h4 : n < need
    · go_wp2
      go_ret
      exact ⟨ret_int (by rw [HC.out, if_pos (by omega)]; rfl), rfl⟩
    · go_wp2
      go_ret
      refine ⟨ret_int ?_, rfl⟩
      rw [HC.out, if_neg (by omega)]
      go_num

theorem inN_head {w : World} {S : Nat → Prop} {v : Value} {x : Nat} {A : List Nat} (h : InN w S v (x :: A)) : ∃ b o c, v = .slice (some ⟨b, o, none⟩) (A.length + 1) (c + 1) ∧ c + 1 ≤ maxLen ∧ A.length ≤ c ∧ w.cell? ⟨b, o, none⟩ = some (.int .i64 (x : Int)) ∧
    (∀ a, (0 < A.length → a = some ⟨b, o + 1, none⟩) → InN w S (.slice a A.length c) A) := by
  obtain ⟨a, c, rfl, hc, hm, hr⟩ := h
  simp only [List.length_cons] at hc hr
  obtain ⟨b, o, rfl, hb, hcell⟩ := hr (by omega)
  obtain ⟨c', rfl⟩ : ∃ c', c = c' + 1 := ⟨c - 1, by omega⟩
  refine ⟨b, o, c', rfl, hm, by omega, by have h := hcell 0 (by omega) 0 (by omega); simpa [natF] using h, fun a ha => ⟨a, c', rfl, by omega, by omega, fun hp => ⟨b, o + 1, ha hp, hb, fun i hi j hj => ?_⟩⟩⟩
  have h := hcell (i + 1) (by omega) j hj
  simp only [Nat.mul_one] at h ⊢
  rw [show o + 1 + i + j = o + (i + 1) + j by omega, h]
  simp [natF]

set_option maxHeartbeats 1000000 in
theorem sig_Overlap (va vb : Value) (xs ys : List Nat) (S T : Nat → Prop) (w : World) (ha : InN w S va xs) (hb : InN w T vb ys) (hx : Up xs) (hy : Up ys) :
    Calls Tryz.prog 15 #[va, vb] w (Quiet w (.int .i64 ((ovL xs ys : Nat) : Int))) := by
  have HA := hid ha
  have HB := hid hb
  have HX := hid hx
  have HY := hid hy
  have HLE := hid (ov_le_left xs ys)
  have hxm : xs.length ≤ maxLen := by obtain ⟨_, _, _, h1, h2, _⟩ := ha; omega
  unfold maxLen at hxm
  obtain ⟨a0, c0, rfl, -⟩ := ha
  obtain ⟨b0, d0, rfl, -⟩ := hb
  clear hx hy
  generalize htot : ovL xs ys = tot at *
  have HTOT := hid htot
  clear htot
  have htm : tot ≤ 9223372036854775807 := by have := HLE.out; omega
  go_enter Tryz.func15, Tryz.ntmps15
  go_wp2_with fail
  go_loopg [0, 1, 5] (xs.length + ys.length) (fun N s0 s1 s5 wr => ∃ A B k, A.length + B.length = N ∧ (∃ m, wr = w.drewN m) ∧ s5 = .int .i64 ((k : Nat) : Int) ∧ Hid (InN w S s0 A ∧ InN w T s1 B ∧ Up A ∧ Up B ∧ k + ovL A B = tot))
  case atStart => exact ⟨xs, ys, 0, rfl, ⟨0, rfl⟩, rfl, hid ⟨HA.out, HB.out, HX.out, HY.out, by rw [HTOT.out]; omega⟩⟩
  case round =>
    obtain ⟨A, B, k, hN, ⟨m, rfl⟩, rfl, HST⟩ := hrel
    obtain ⟨h1, h2, h3, h4, h5⟩ := HST.out
    cases A with
    | nil =>
      obtain ⟨a1, c1, rfl, -⟩ := h1
      obtain ⟨a2, c2, rfl, -⟩ := h2
      rw [ov_nil_left] at h5
      obtain rfl : k = tot := by omega
      go_wp2
      go_ret
      exact ⟨rfl, m, rfl⟩
    | cons x A =>
      obtain ⟨b1, o1, c1, rfl, hm1, hc1, x0, hT1⟩ := inN_head h1
      cases B with
      | nil =>
        obtain ⟨a2, c2, rfl, -⟩ := h2
        rw [ov_nil_right] at h5
        obtain rfl : k = tot := by omega
        go_wp2
        go_ret
        exact ⟨rfl, m, rfl⟩
      | cons y B =>
        obtain ⟨b2, o2, c2, rfl, hm2, hc2, y0, hT2⟩ := inN_head h2
        have HT1 := hid hT1
        have HT2 := hid hT2
        have HU1 := hid h3
        have HU2 := hid h4
        have HK := hid h5
        have hk : k ≤ tot := by omega
        have HW1 := hid h1
        have HW2 := hid h2
        have HLT : Hid (x < y → k + ovL A (y :: B) = tot) := hid (fun h => by rw [← ov_lt h h4]; exact h5)
        have HGT : Hid (y < x → k + ovL (x :: A) B = tot) := hid (fun h => by rw [← ov_gt h h3]; exact h5)
        have HEQ : Hid (x = y → k + 1 + ovL A B = tot) := hid (fun h => by subst h; rw [ov_eq h3] at h5; omega)
        have HV1 := hid (List.pairwise_cons.1 h3).2
        have HV2 := hid (List.pairwise_cons.1 h4).2
        clear hT1 hT2 h1 h2 h3 h4 h5 HST
        simp only [List.length_cons] at hN ⊢
        have HNN := hid hN
        clear hN
        unfold maxLen at hm1 hm2
        have x1 : (w.drewN m).cell? ⟨b1, o1, none⟩ = some (.int .i64 (x : Int)) := x0
        have y1 : (w.drewN m).cell? ⟨b2, o2, none⟩ = some (.int .i64 (y : Int)) := y0
        have HCMP := hid (fun W => lib_Compare (x : Int) (y : Int) W)
        generalize hla : A.length = la at *
        generalize hlb : B.length = lb at *
        have HS1a : Hid (c1 = 0 → InN w S (.slice (some ⟨b1, o1, none⟩) 0 0) A) := hid (fun h => by
          subst h
          have e : la = 0 := by omega
          have h := HT1.out (some ⟨b1, o1, none⟩) (by omega)
          rwa [e] at h)
        have HS1b : Hid (InN w S (.slice (some ⟨b1, o1 + 1, none⟩) la c1) A) := hid (HT1.out _ (fun _ => rfl))
        have HS2a : Hid (c2 = 0 → InN w T (.slice (some ⟨b2, o2, none⟩) 0 0) B) := hid (fun h => by
          subst h
          have e : lb = 0 := by omega
          have h := HT2.out (some ⟨b2, o2, none⟩) (by omega)
          rwa [e] at h)
        have HS2b : Hid (InN w T (.slice (some ⟨b2, o2 + 1, none⟩) lb c2) B) := hid (HT2.out _ (fun _ => rfl))
        have HLA := hid hla
        have HLB := hid hlb
        clear hla hlb HT1 HT2
        obtain ⟨wv, hwv⟩ : ∃ wv, wv = w.drewN m := ⟨_, rfl⟩
        rw [← hwv] at x1 y1 ⊢
        have HW : Hid (∀ nq, ∃ m', wv.drewN nq = w.drewN m') := hid (fun nq => ⟨m + nq, by rw [hwv, World.drewN_drewN]⟩)
        clear hwv x0 y0
        have HZ : Hid (cmpZ (x : Int) (y : Int) = if (x : Int) < (y : Int) then -1 else if (y : Int) < (x : Int) then 1 else 0) := hid rfl
        generalize cmpZ (x : Int) (y : Int) = z at *
        by_cases hxy : x < y
        · obtain rfl : z = -1 := by rw [HZ.out, if_pos (by omega)]
          go_wp2_with fail
          go_quiet ((go_at_call 43; exact Calls.quiet_of_same ((HCMP.out _).mono (fun _ _ h => ⟨h.1, h.2.symm⟩))))
          by_cases hcc : c1 = 0
          · have HCC := hid hcc
            subst hcc
            go_wp2
            go_roundg (la + lb + 1)
            case rel => exact ⟨A, y :: B, k, by rw [HLA.out, List.length_cons, HLB.out]; omega, HW.out _, rfl, hid ⟨HS1a.out HCC.out, HW2.out, HV1.out, HU2.out, HLT.out hxy⟩⟩
            case measure => have := HNN.out; omega
          · go_wp2
            go_roundg (la + lb + 1)
            case rel => exact ⟨A, y :: B, k, by rw [HLA.out, List.length_cons, HLB.out]; omega, HW.out _, rfl, hid ⟨HS1b.out, HW2.out, HV1.out, HU2.out, HLT.out hxy⟩⟩
            case measure => have := HNN.out; omega
        · by_cases hyx : y < x
          · obtain rfl : z = 1 := by rw [HZ.out, if_neg (by omega), if_pos (by omega)]
            go_wp2_with fail
            go_quiet ((go_at_call 43; exact Calls.quiet_of_same ((HCMP.out _).mono (fun _ _ h => ⟨h.1, h.2.symm⟩))))
            by_cases hcc : c2 = 0
            · have HCC := hid hcc
              subst hcc
              go_wp2
              go_roundg (la + lb + 1)
              case rel => exact ⟨x :: A, B, k, by rw [HLB.out, List.length_cons, HLA.out]; omega, HW.out _, rfl, hid ⟨HW1.out, HS2a.out HCC.out, HU1.out, HV2.out, HGT.out hyx⟩⟩
              case measure => have := HNN.out; omega
            · go_wp2
              go_roundg (la + lb + 1)
              case rel => exact ⟨x :: A, B, k, by rw [HLB.out, List.length_cons, HLA.out]; omega, HW.out _, rfl, hid ⟨HW1.out, HS2b.out, HU1.out, HV2.out, HGT.out hyx⟩⟩
              case measure => have := HNN.out; omega
          · obtain rfl : z = 0 := by rw [HZ.out, if_neg (by omega), if_neg (by omega)]
            have HQ := hid (HEQ.out (by omega))
            have hk1 : k + 1 ≤ tot := by have := HQ.out; omega
            go_wp2_with fail
            go_quiet ((go_at_call 43; exact Calls.quiet_of_same ((HCMP.out _).mono (fun _ _ h => ⟨h.1, h.2.symm⟩))))
            have HWN : Hid (∀ nq', ∃ m', (wv.drewN nq).drewN nq' = w.drewN m') := hid (fun nq' => by
              obtain ⟨m', h⟩ := HW.out nq
              exact ⟨m' + nq', by rw [h, World.drewN_drewN]⟩)
            generalize wv.drewN nq = wq at *
            by_cases hc1' : c1 = 0 <;> by_cases hc2' : c2 = 0
            · have HC1 := hid hc1'
              have HC2 := hid hc2'
              subst hc1' hc2'
              go_wp2_with fail
              go_quiet (fail)
              go_wp2
              go_roundg (la + lb)
              case rel => exact ⟨A, B, k + 1, by rw [HLB.out, HLA.out], HWN.out _, by go_num, hid ⟨HS1a.out HC1.out, HS2a.out HC2.out, HV1.out, HV2.out, HQ.out⟩⟩
              case measure => have := HNN.out; omega
            · have HC1 := hid hc1'
              subst hc1'
              go_wp2_with fail
              go_quiet (fail)
              go_wp2
              go_roundg (la + lb)
              case rel => exact ⟨A, B, k + 1, by rw [HLB.out, HLA.out], HWN.out _, by go_num, hid ⟨HS1a.out HC1.out, HS2b.out, HV1.out, HV2.out, HQ.out⟩⟩
              case measure => have := HNN.out; omega
            · have HC2 := hid hc2'
              subst hc2'
              go_wp2_with fail
              go_quiet (fail)
              go_wp2
              go_roundg (la + lb)
              case rel => exact ⟨A, B, k + 1, by rw [HLB.out, HLA.out], HWN.out _, by go_num, hid ⟨HS1b.out, HS2a.out HC2.out, HV1.out, HV2.out, HQ.out⟩⟩
              case measure => have := HNN.out; omega
            · go_wp2_with fail
              go_quiet (fail)
              go_wp2
              go_roundg (la + lb)
              case rel => exact ⟨A, B, k + 1, by rw [HLB.out, HLA.out], HWN.out _, by go_num, hid ⟨HS1b.out, HS2b.out, HV1.out, HV2.out, HQ.out⟩⟩
              case measure => have := HNN.out; omega

end Go.Proofs.YtabemneoobbnaaaGreatDoor
