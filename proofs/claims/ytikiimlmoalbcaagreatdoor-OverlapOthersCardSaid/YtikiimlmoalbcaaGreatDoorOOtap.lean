/- Contracts of slices.symMergeCmpFunc, stableCmpFunc and SortStableFunc at numbers: the same numbers in some order. -/
import Derived.Test.YtikiimlmoalbcaaGreatDoorOOtao
set_option linter.unusedVariables false
set_option linter.unusedSimpArgs false
namespace Go.Proofs.YtikiimlmoalbcaaGreatDoor
open Go.RowKit
def MergeP (xb : Nat) (base b cap n k : Nat) : Prop := ∀ (xs : List Nat) (a m c : Nat) (w : World), RowI w base b cap n xs → c - a ≤ k → a < m → m < c → c ≤ n → CmpQ xs b xb w → (c - a = k) →
  Calls Tryz.prog 215 #[.slice (some ⟨b, 0, none⟩) n cap, .int .i64 (a : Int), .int .i64 (m : Int), .int .i64 (c : Int), .func (.func 154) #[] #[.pointer (some ⟨xb, 0, none⟩)]] w (PermP w base b cap n xs)
set_option maxRecDepth 100000 in
set_option maxHeartbeats 16000000 in
theorem sym_step (xb base b cap n k : Nat) (hn : n ≤ 1048576) (hIH : ∀ j, j < k → MergeP xb base b cap n j) : MergeP xb base b cap n k := by
  intro xs a m c w h hk ham hmc hc hC hke
  have H := hid h
  have HC := hid hC
  have IH := hid hIH
  have HKE := hid hke
  clear h hC hIH hk hke
  have e1 : ((m : Int) - (a : Int) == 1) = decide (m - a = 1) := by
    by_cases h : m - a = 1
    · rw [decide_eq_true h]; simp; omega
    · rw [decide_eq_false h]; simp; omega
  have e2 : ((c : Int) - (m : Int) == 1) = decide (c - m = 1) := by
    by_cases h : c - m = 1
    · rw [decide_eq_true h]; simp; omega
    · rw [decide_eq_false h]; simp; omega
  by_cases hm1 : m - a = 1
  · rw [decide_eq_true hm1] at e1
    have e1i : (m : Int) - (a : Int) = 1 := by omega
    clear e2 hm1
    go_enter Tryz.func215, Tryz.ntmps215
    generalize hLA : Code.loop _ = LA
    generalize hLB : Code.loop _ = LB
    go_wp2_with fail
    have HM := hid trivial
    have HS0 := hid trivial
    subst hLA
    subst hLB
    go_loopg [10, 11] (c - m) (fun K iv jv wr => ∃ p q : Nat, iv = .int .i64 (p : Int) ∧ jv = .int .i64 (q : Int) ∧ q = p + K ∧ m ≤ p ∧ q ≤ c ∧ Hid (BarZ w b wr) ∧ Hid (RowI wr base b cap n xs))
    case atStart => exact ⟨m, c, rfl, rfl, by omega, by omega, by omega, hid (BarZ.refl _ _), H⟩
    case round =>
      obtain ⟨p, q, rfl, rfl, hpq, hp0, hq0, HB, HR⟩ := hrel
      obtain ⟨ys, hys⟩ : ∃ ys, ys = xs := ⟨_, rfl⟩
      rw [← hys] at HR
      have HP : Hid (ys.Perm xs) := hid (by rw [hys])
      have HYS := hid hys
      clear hys
      by_cases hp : 0 < gk
      · have hlt : (p : Int) < (q : Int) := by omega
        obtain ⟨t, ht⟩ : ∃ t, t = (p + q) / 2 := ⟨_, rfl⟩
        have hf1 : (p + q) / 2 = t := ht.symm
        have hf2 : ((p : Int) + (q : Int)) / 2 = (t : Int) := by omega
        have htp : p ≤ t := by omega
        have htq : t < q := by omega
        have HPQ := hid hpq
        clear hpq ht
        have hi : t < n := by have := HM.out; have := HS0.out; omega
        have hj : a < n := by omega
        have hii : (t : Int) < (n : Int) := by omega
        have hjj : (a : Int) < (n : Int) := by omega
        have k0 := HR.out.at hi
        have k1 := HR.out.at hj
        have hu : ys.getD t 0 ∈ xs := HP.out.mem_iff.1 (getD_mem (by rw [HR.out.1]; exact hi) 0)
        have hv : ys.getD a 0 ∈ xs := HP.out.mem_iff.1 (getD_mem (by rw [HR.out.1]; exact hj) 0)
        have HG := hid (fun W (hW : Below wr.heap.size wr W) => (⟨(HR.out.later hW).at hi, (HR.out.later hW).at hj⟩ : W.cell? ⟨b, t, none⟩ = some (.int .i64 ((ys.getD t 0 : Nat) : Int)) ∧ W.cell? ⟨b, a, none⟩ = some (.int .i64 ((ys.getD a 0 : Nat) : Int))))
        have HD := hid ((Below.refl wr.heap.size wr).drew)
        have HQ := hid (fun W (hW : Below wr.heap.size wr W) => HC.out W (HB.out.quiet hW) _ hu _ hv)
        generalize hU : ys.getD t 0 = u at *
        generalize hV : ys.getD a 0 = v at *
        have HU := hid hU
        have HV := hid hV
        clear hU hV hu hv
        go_upto_region 5 with fail
        go_region_held3 (fun W => W.cell? ⟨b, t, none⟩ = some (.int .i64 (u : Int)) ∧ W.cell? ⟨b, a, none⟩ = some (.int .i64 (v : Int)))
          (first | exact HG.out _ HD.out | exact HG.out _ HD5.out | go_keep)
          ((go_at_call 154; go_must ((with_reducible refine (HQ.out _ HD.out).mono ?_); rintro e w5 ⟨⟨z, rfl⟩, hb5⟩; have HD5 := hid (HD.out.trans (hb5.mono HD.out.size)); clear hb5)))
        clear k0 k1
        have HR5 := hid (HR.out.later HD5.out)
        have HB5 := hid (HB.out.quiet HD5.out)
        clear HG HQ HD HD5 HR HB
        go_wp2_with fail
        all_goals
          first
            | (go_roundg (q - (t + 1))
               case rel => exact ⟨t + 1, q, by go_num, rfl, by omega, by omega, by omega, HB5, by rw [← HYS.out]; exact HR5⟩
               case measure => have := HPQ.out; omega)
            | (go_roundg (t - p)
               case rel => exact ⟨p, t, rfl, by go_num, by omega, by omega, by omega, HB5, by rw [← HYS.out]; exact HR5⟩
               case measure => have := HPQ.out; omega)
      · obtain rfl : gk = 0 := by omega
        obtain rfl : q = p := by omega
        clear hpq
        go_wp2_with fail
        go_loopg [13] (q - 1 - a) (fun K kv wr => ∃ (k : Nat) (ys : List Nat), kv = .int .i64 (k : Int) ∧ k + K = q - 1 ∧ a ≤ k ∧ Hid (ys.Perm xs) ∧ Hid (RowI wr base b cap n ys) ∧ Hid (BarZ w b wr))
        case atStart => exact ⟨a, ys, rfl, by omega, by omega, HP, HR, HB⟩
        case round =>
          clear HP HR HB HYS
          obtain ⟨k, ys, rfl, hk, hka, HP, HR, HB⟩ := hrel
          obtain ⟨q1, hq1⟩ : ∃ z, z = q - 1 := ⟨_, rfl⟩
          have hq1i : (q : Int) - 1 = (q1 : Int) := by omega
          by_cases hp2 : 0 < gk
          · have hkx : (k : Int) < (q1 : Int) := by omega
            obtain ⟨kq, hk1⟩ : ∃ z, z = k + 1 := ⟨_, rfl⟩
            have hki : (k : Int) + 1 = (kq : Int) := by omega
            have hi : k < n := by omega
            have hj : kq < n := by omega
            have hii : (k : Int) < (n : Int) := by omega
            have hjj : (kq : Int) < (n : Int) := by omega
            have hne : k ≠ kq := by omega
            have HK1 := hid hk1
            have HQ1 := hid hq1
            have HK := hid hk
            clear hk1 hq1 hk
            have k0 := HR.out.at hi
            have k1 := HR.out.at hj
            have f0 := HR.out.2.frozenAt k
            have f1 := HR.out.2.frozenAt kq
            have HS1 := hid (RowI.swap (w := wr.drew) HR.out hi hj)
            have HS2 := hid (RowI.swap' (w := wr.drew) HR.out hi hj hne)
            have HB1 := hid (fun i j u v => barZ_swap HB.out.drew i j u v)
            have HPM := hid ((swapN_perm (by rw [HR.out.1]; exact hi) (by rw [HR.out.1]; exact hj)).trans HP.out)
            generalize swapN ys k kq = zs at *
            generalize ys.getD k 0 = sa at *
            generalize ys.getD kq 0 = sb at *
            clear HP HR HB hne
            go_upto_region 11 with fail
            go_region
            all_goals
              go_wp2_with fail
              go_roundg (gk - 1)
              case rel => exact ⟨kq, zs, rfl, by have := HK1.out; have := HK.out; omega, by have := HK1.out; omega, HPM, hid (by first | exact HS1.out | exact HS2.out), hid (by first | exact HB1.out _ _ _ _)⟩
              case measure => have := HK.out; have := HQ1.out; omega
          · have hkx : ¬ (k : Int) < (q1 : Int) := by omega
            have HF : Hid (PermP w base b cap n xs (.returned (.tuple #[])) wr) := hid ⟨rfl, ys, HP.out, HR.out, HB.out⟩
            clear hq1
            go_wp2
            go_end0
            exact HF.out
  · rw [decide_eq_false hm1] at e1
    have e1i : ¬ ((m : Int) - (a : Int) = 1) := by omega
    by_cases hc1 : c - m = 1
    · rw [decide_eq_true hc1] at e2
      have e2i : (c : Int) - (m : Int) = 1 := by omega
      clear hc1 hm1
      go_enter Tryz.func215, Tryz.ntmps215
      generalize hLA : Code.loop _ = LA
      generalize hLB : Code.loop _ = LB
      go_wp2_with fail
      have HM := hid trivial
      have HS0 := hid trivial
      subst hLA
      subst hLB
      go_loopg [14, 15] (m - a) (fun K iv jv wr => ∃ p q : Nat, iv = .int .i64 (p : Int) ∧ jv = .int .i64 (q : Int) ∧ q = p + K ∧ a ≤ p ∧ q ≤ m ∧ Hid (BarZ w b wr) ∧ Hid (RowI wr base b cap n xs))
      case atStart => exact ⟨a, m, rfl, rfl, by omega, by omega, by omega, hid (BarZ.refl _ _), H⟩
      case round =>
        obtain ⟨p, q, rfl, rfl, hpq, hp0, hq0, HB, HR⟩ := hrel
        obtain ⟨ys, hys⟩ : ∃ ys, ys = xs := ⟨_, rfl⟩
        rw [← hys] at HR
        have HP : Hid (ys.Perm xs) := hid (by rw [hys])
        have HYS := hid hys
        clear hys
        by_cases hp : 0 < gk
        · have hlt : (p : Int) < (q : Int) := by omega
          obtain ⟨t, ht⟩ : ∃ t, t = (p + q) / 2 := ⟨_, rfl⟩
          have hf1 : (p + q) / 2 = t := ht.symm
          have hf2 : ((p : Int) + (q : Int)) / 2 = (t : Int) := by omega
          have htp : p ≤ t := by omega
          have htq : t < q := by omega
          have HPQ := hid hpq
          clear hpq ht
          have hi : t < n := by have := HM.out; have := HS0.out; omega
          have hj : m < n := by omega
          have hii : (t : Int) < (n : Int) := by omega
          have hjj : (m : Int) < (n : Int) := by omega
          have k0 := HR.out.at hi
          have k1 := HR.out.at hj
          have hu : ys.getD t 0 ∈ xs := HP.out.mem_iff.1 (getD_mem (by rw [HR.out.1]; exact hi) 0)
          have hv : ys.getD m 0 ∈ xs := HP.out.mem_iff.1 (getD_mem (by rw [HR.out.1]; exact hj) 0)
          have HG := hid (fun W (hW : Below wr.heap.size wr W) => (⟨(HR.out.later hW).at hi, (HR.out.later hW).at hj⟩ : W.cell? ⟨b, t, none⟩ = some (.int .i64 ((ys.getD t 0 : Nat) : Int)) ∧ W.cell? ⟨b, m, none⟩ = some (.int .i64 ((ys.getD m 0 : Nat) : Int))))
          have HD := hid ((Below.refl wr.heap.size wr).drew)
          have HQ := hid (fun W (hW : Below wr.heap.size wr W) => HC.out W (HB.out.quiet hW) _ hv _ hu)
          generalize hU : ys.getD t 0 = u at *
          generalize hV : ys.getD m 0 = v at *
          have HU := hid hU
          have HV := hid hV
          clear hU hV hu hv
          go_upto_region 17 with fail
          go_region_held3 (fun W => W.cell? ⟨b, t, none⟩ = some (.int .i64 (u : Int)) ∧ W.cell? ⟨b, m, none⟩ = some (.int .i64 (v : Int)))
            (first | exact HG.out _ HD.out | exact HG.out _ HD5.out | go_keep)
            ((go_at_call 154; go_must ((with_reducible refine (HQ.out _ HD.out).mono ?_); rintro e w5 ⟨⟨z, rfl⟩, hb5⟩; have HD5 := hid (HD.out.trans (hb5.mono HD.out.size)); clear hb5)))
          clear k0 k1
          have HR5 := hid (HR.out.later HD5.out)
          have HB5 := hid (HB.out.quiet HD5.out)
          clear HG HQ HD HD5 HR HB
          go_wp2_with fail
          all_goals
            first
              | (go_roundg (q - (t + 1))
                 case rel => exact ⟨t + 1, q, by go_num, rfl, by omega, by omega, by omega, HB5, by rw [← HYS.out]; exact HR5⟩
                 case measure => have := HPQ.out; omega)
              | (go_roundg (t - p)
                 case rel => exact ⟨p, t, rfl, by go_num, by omega, by omega, by omega, HB5, by rw [← HYS.out]; exact HR5⟩
                 case measure => have := HPQ.out; omega)
        · obtain rfl : gk = 0 := by omega
          obtain rfl : q = p := by omega
          clear hpq
          go_wp2_with fail
          go_loopg [17] (m - q) (fun K kv wr => ∃ (k : Nat) (ys : List Nat), kv = .int .i64 (k : Int) ∧ k = q + K ∧ k ≤ m ∧ Hid (ys.Perm xs) ∧ Hid (RowI wr base b cap n ys) ∧ Hid (BarZ w b wr))
          case atStart => exact ⟨m, ys, rfl, by omega, by omega, HP, HR, HB⟩
          case round =>
            clear HP HR HB HYS
            obtain ⟨k, ys, rfl, hk, hka, HP, HR, HB⟩ := hrel
            by_cases hp2 : 0 < gk
            · have hkx : (q : Int) < (k : Int) := by omega
              obtain ⟨kq, hk1⟩ : ∃ z, z = k - 1 := ⟨_, rfl⟩
              have hki : (k : Int) - 1 = (kq : Int) := by omega
              have hkw : IntKind.i64.wrap ((k : Int) - 1) = (kq : Int) := by rw [IntKind.wrap_i64]; omega
              have hi : k < n := by omega
              have hj : kq < n := by omega
              have hii : (k : Int) < (n : Int) := by omega
              have hjj : (kq : Int) < (n : Int) := by omega
              have hne : k ≠ kq := by omega
              have HK1 := hid hk1
              have HK := hid hk
              clear hk1 hk
              have k0 := HR.out.at hi
              have k1 := HR.out.at hj
              have f0 := HR.out.2.frozenAt k
              have f1 := HR.out.2.frozenAt kq
              have HS1 := hid (RowI.swap (w := wr.drew) HR.out hi hj)
              have HS2 := hid (RowI.swap' (w := wr.drew) HR.out hi hj hne)
              have HB1 := hid (fun i j u v => barZ_swap HB.out.drew i j u v)
              have HPM := hid ((swapN_perm (by rw [HR.out.1]; exact hi) (by rw [HR.out.1]; exact hj)).trans HP.out)
              generalize swapN ys k kq = zs at *
              generalize ys.getD k 0 = sa at *
              generalize ys.getD kq 0 = sb at *
              clear HP HR HB hne
              go_upto_region 23 with fail
              go_region
              all_goals
                go_wp2_with fail
                go_roundg (gk - 1)
                case rel => exact ⟨kq, zs, rfl, by have := HK1.out; have := HK.out; omega, by have := HK1.out; omega, HPM, hid (by first | exact HS1.out | exact HS2.out), hid (by first | exact HB1.out _ _ _ _)⟩
                case measure => have := HK.out; omega
            · have hkx : ¬ (q : Int) < (k : Int) := by omega
              have HF : Hid (PermP w base b cap n xs (.returned (.tuple #[])) wr) := hid ⟨rfl, ys, HP.out, HR.out, HB.out⟩
              go_wp2
              go_end0
              exact HF.out
    · rw [decide_eq_false hc1] at e2
      have e2i : ¬ ((c : Int) - (m : Int) = 1) := by omega
      obtain ⟨mid, hmid⟩ : ∃ t, t = (a + c) / 2 := ⟨_, rfl⟩
      have hmf1 : (a + c) / 2 = mid := hmid.symm
      have hmf2 : ((a : Int) + (c : Int)) / 2 = (mid : Int) := by omega
      obtain ⟨nn, hnn⟩ : ∃ t, t = mid + m := ⟨_, rfl⟩
      have hnf : (mid : Int) + (m : Int) = (nn : Int) := by omega
      obtain ⟨pp, hpp⟩ : ∃ t, t = nn - 1 := ⟨_, rfl⟩
      have hpf : (nn : Int) - 1 = (pp : Int) := by omega
      have hpw : IntKind.i64.wrap ((nn : Int) - 1) = (pp : Int) := by rw [IntKind.wrap_i64]; omega
      have HM := hid (And.intro hmid (And.intro hnn hpp))
      have hb1 : a < mid ∧ mid < c := by omega
      clear hmid hnn hpp hc1 hm1
      obtain ⟨s0, r0, hs0⟩ : ∃ s0 r0 : Nat, (mid < m ∧ s0 + c = nn ∧ r0 = mid) ∨ (m ≤ mid ∧ s0 = a ∧ r0 = m) := by
        by_cases h : mid < m
        · exact ⟨nn - c, mid, .inl ⟨h, by have := HM.out; omega, rfl⟩⟩
        · exact ⟨a, m, .inr ⟨by omega, rfl, rfl⟩⟩
      have HS0 := hid hs0
      have hsr : s0 ≤ r0 := by have := HM.out; omega
      rcases hs0 with ⟨h1, h2, h3⟩ | ⟨h1, h2, h3⟩
      · have hc1 : (mid : Int) < (m : Int) := by omega
        have hc2 : (nn : Int) - (c : Int) = (s0 : Int) := by omega
        clear h1 h2
        have h3' := h3.symm
        clear h3
        subst h3'
        go_enter Tryz.func215, Tryz.ntmps215
        generalize hLA : Code.loop _ = LA
        go_wp2_with fail
        subst hLA
        
        go_loopg [20, 21] (mid - s0) (fun K iv jv wr => ∃ p q : Nat, iv = .int .i64 (p : Int) ∧ jv = .int .i64 (q : Int) ∧ q = p + K ∧ s0 ≤ p ∧ q ≤ mid ∧ Hid (BarZ w b wr) ∧ Hid (RowI wr base b cap n xs))
        case atStart => exact ⟨s0, mid, rfl, rfl, by omega, by omega, by omega, hid (BarZ.refl _ _), H⟩
        case round =>
          obtain ⟨p, q, rfl, rfl, hpq, hp0, hq0, HB, HR⟩ := hrel
          obtain ⟨ys, hys⟩ : ∃ ys, ys = xs := ⟨_, rfl⟩
          rw [← hys] at HR
          have HP : Hid (ys.Perm xs) := hid (by rw [hys])
          have HYS := hid hys
          clear hys
          by_cases hp : 0 < gk
          · have hlt : (p : Int) < (q : Int) := by omega
            obtain ⟨t, ht⟩ : ∃ t, t = (p + q) / 2 := ⟨_, rfl⟩
            have hf1 : (p + q) / 2 = t := ht.symm
            have hf2 : ((p : Int) + (q : Int)) / 2 = (t : Int) := by omega
            have htp : p ≤ t := by omega
            have htq : t < q := by omega
            have HPQ := hid hpq
            clear hpq ht
            have hi : t < n := by have := HM.out; have := HS0.out; omega
            obtain ⟨pt, hpt⟩ : ∃ z, z = pp - t := ⟨_, rfl⟩
            have hptf : (pp : Int) - (t : Int) = (pt : Int) := by have := HM.out; have := HS0.out; omega
            have hptw : IntKind.i64.wrap ((pp : Int) - (t : Int)) = (pt : Int) := by rw [IntKind.wrap_i64]; omega
            have hj : pt < n := by have := HM.out; have := HS0.out; omega
            have hptw2 : IntKind.i64.wrap (pt : Int) = (pt : Int) := by rw [IntKind.wrap_i64]; omega
            have hpt0 : (0 : Int) ≤ (pt : Int) := by omega
            have ht0 : (0 : Int) ≤ (t : Int) := by omega
            clear hpt
            have hii : (t : Int) < (n : Int) := by omega
            have hjj : (pt : Int) < (n : Int) := by omega
            have k0 := HR.out.at hi
            have k1 := HR.out.at hj
            have hu : ys.getD t 0 ∈ xs := HP.out.mem_iff.1 (getD_mem (by rw [HR.out.1]; exact hi) 0)
            have hv : ys.getD pt 0 ∈ xs := HP.out.mem_iff.1 (getD_mem (by rw [HR.out.1]; exact hj) 0)
            have HG := hid (fun W (hW : Below wr.heap.size wr W) => (⟨(HR.out.later hW).at hi, (HR.out.later hW).at hj⟩ : W.cell? ⟨b, t, none⟩ = some (.int .i64 ((ys.getD t 0 : Nat) : Int)) ∧ W.cell? ⟨b, pt, none⟩ = some (.int .i64 ((ys.getD pt 0 : Nat) : Int))))
            have HD := hid ((Below.refl wr.heap.size wr).drew)
            have HQ := hid (fun W (hW : Below wr.heap.size wr W) => HC.out W (HB.out.quiet hW) _ hv _ hu)
            generalize hU : ys.getD t 0 = u at *
            generalize hV : ys.getD pt 0 = v at *
            have HU := hid hU
            have HV := hid hV
            clear hU hV hu hv
            go_upto_region 35 with fail
            go_region_held3 (fun W => W.cell? ⟨b, t, none⟩ = some (.int .i64 (u : Int)) ∧ W.cell? ⟨b, pt, none⟩ = some (.int .i64 (v : Int)))
              (first | exact HG.out _ HD.out | exact HG.out _ HD5.out | go_keep)
              ((go_at_call 154; go_must ((with_reducible refine (HQ.out _ HD.out).mono ?_); rintro e w5 ⟨⟨z, rfl⟩, hb5⟩; have HD5 := hid (HD.out.trans (hb5.mono HD.out.size)); clear hb5)))
            clear k0 k1
            have HR5 := hid (HR.out.later HD5.out)
            have HB5 := hid (HB.out.quiet HD5.out)
            clear HG HQ HD HD5 HR HB
            go_wp2_with fail
            all_goals
              first
                | (go_roundg (q - (t + 1))
                   case rel => exact ⟨t + 1, q, by go_num, rfl, by omega, by omega, by omega, HB5, by rw [← HYS.out]; exact HR5⟩
                   case measure => have := HPQ.out; omega)
                | (go_roundg (t - p)
                   case rel => exact ⟨p, t, rfl, by go_num, by omega, by omega, by omega, HB5, by rw [← HYS.out]; exact HR5⟩
                   case measure => have := HPQ.out; omega)
          · obtain rfl : gk = 0 := by omega
            obtain rfl : q = p := by omega
            clear hpq
            obtain ⟨en, hen⟩ : ∃ z, z = nn - q := ⟨_, rfl⟩
            have heni : (nn : Int) - (q : Int) = (en : Int) := by have := HM.out; have := HS0.out; omega
            have hen1 : en ≤ n := by have := HM.out; have := HS0.out; omega
            clear hen
            obtain ⟨st, hst⟩ : ∃ st, st = q := ⟨_, rfl⟩
            subst hst
            clear HYS
            go_upto_region 39 with fail
            go_cut [185] from 178 to 185 (fun sv wc => sv = .bool (decide (st < m ∧ m < en)) ∧ wc = wr)
            case first =>
              by_cases c1a : st < m
              · have c1i : (st : Int) < (m : Int) := by omega
                have c1u : decide ((st : Int) < (m : Int)) = true := decide_eq_true c1i
                have c1x : decide (st < m) = true := decide_eq_true c1a
                by_cases c1b : m < en
                · have c1j : (m : Int) < (en : Int) := by omega
                  have c1v : decide ((m : Int) < (en : Int)) = true := decide_eq_true c1j
                  have c1w : decide (m < en) = true := decide_eq_true c1b
                  have c1d : decide (st < m ∧ m < en) = true := decide_eq_true ⟨c1a, c1b⟩
                  go_wp2_with fail
                  all_goals
                    first
                      | (go_meet; exact ⟨by first | (rw [c1d]; done) | (rw [c1d, c1w]; done) | (rw [c1d, c1x]; done) | (rw [c1d]; simp only [Value.bool.injEq, decide_eq_true_eq, decide_eq_false_iff_not]; omega) | (simp only [Value.bool.injEq, decide_eq_true_eq, decide_eq_false_iff_not]; omega), rfl⟩)
                      | (exfalso; omega)
                · have c1j : ¬ (m : Int) < (en : Int) := by omega
                  have c1v : decide ((m : Int) < (en : Int)) = false := decide_eq_false c1j
                  have c1w : decide (m < en) = false := decide_eq_false c1b
                  have c1d : decide (st < m ∧ m < en) = false := decide_eq_false (fun h => c1b h.2)
                  go_wp2_with fail
                  all_goals
                    first
                      | (go_meet; exact ⟨by first | (rw [c1d]; done) | (rw [c1d, c1w]; done) | (rw [c1d, c1x]; done) | (rw [c1d]; simp only [Value.bool.injEq, decide_eq_true_eq, decide_eq_false_iff_not]; omega) | (simp only [Value.bool.injEq, decide_eq_true_eq, decide_eq_false_iff_not]; omega), rfl⟩)
                      | (exfalso; omega)
              · have c1i : ¬ (st : Int) < (m : Int) := by omega
                have c1u : decide ((st : Int) < (m : Int)) = false := decide_eq_false c1i
                have c1x : decide (st < m) = false := decide_eq_false c1a
                have c1d : decide (st < m ∧ m < en) = false := decide_eq_false (fun h => c1a h.1)
                go_wp2_with fail
                all_goals
                  first
                    | (go_meet; exact ⟨by first | (rw [c1d]; done) | (rw [c1d, c1w]; done) | (rw [c1d, c1x]; done) | (rw [c1d]; simp only [Value.bool.injEq, decide_eq_true_eq, decide_eq_false_iff_not]; omega) | (simp only [Value.bool.injEq, decide_eq_true_eq, decide_eq_false_iff_not]; omega), rfl⟩)
                    | (exfalso; omega)
            case rest =>
            obtain ⟨rfl, rfl⟩ := hcut
            obtain ⟨wr, rfl⟩ : ∃ W, W = wc := ⟨wc, rfl⟩
            go_upto_if 185 with fail
            obtain ⟨gc1, hg⟩ : ∃ g, g = decide (st < m ∧ m < en) := ⟨_, rfl⟩
            rw [← hg]
            have HGc1 := hid hg
            clear hg
            go_cut [191] from 186 to 191 (fun _ wc => ∃ zs : List Nat, Hid (zs.Perm xs) ∧ Hid (RowI wc base b cap n zs) ∧ Hid (BarZ w b wc))
            case first =>
              cases gc1 with
              | true =>
                obtain ⟨c1a, c1b⟩ : st < m ∧ m < en := of_decide_eq_true HGc1.out.symm
                have HCN := hid (rotateN ys base b cap n st m en (.func (.func 154) #[] #[.pointer (some ⟨xb, 0, none⟩)]) wr HR.out c1a c1b (by omega) hn)
                go_wp2_with fail
                with_reducible refine HCN.out.mono ?_
                rintro e w7 ⟨rfl, ys7, hp7, hr7, hb7⟩
                have HP7 := hid (hp7.trans HP.out)
                have HR7 := hid hr7
                have HB7 := hid (HB.out.trans hb7)
                clear hp7 hr7 hb7
                go_wp2_with fail
                go_meet
                exact ⟨ys7, HP7, HR7, HB7⟩
              | false =>
                go_wp2_with fail
                go_meet
                exact ⟨ys, HP, HR, HB⟩
            case rest =>
            clear HP HR HB
            obtain ⟨ys, HP, HR, HB⟩ := hcut
            obtain ⟨wr, rfl⟩ : ∃ W, W = wc := ⟨wc, rfl⟩
            go_upto_region 41 with fail
            go_cut [199] from 192 to 199 (fun sv wc => sv = .bool (decide (a < st ∧ st < mid)) ∧ wc = wr)
            case first =>
              by_cases c2a : a < st
              · have c2i : (a : Int) < (st : Int) := by omega
                have c2u : decide ((a : Int) < (st : Int)) = true := decide_eq_true c2i
                have c2x : decide (a < st) = true := decide_eq_true c2a
                by_cases c2b : st < mid
                · have c2j : (st : Int) < (mid : Int) := by omega
                  have c2v : decide ((st : Int) < (mid : Int)) = true := decide_eq_true c2j
                  have c2w : decide (st < mid) = true := decide_eq_true c2b
                  have c2d : decide (a < st ∧ st < mid) = true := decide_eq_true ⟨c2a, c2b⟩
                  go_wp2_with fail
                  all_goals
                    first
                      | (go_meet; exact ⟨by first | (rw [c2d]; done) | (rw [c2d, c2w]; done) | (rw [c2d, c2x]; done) | (rw [c2d]; simp only [Value.bool.injEq, decide_eq_true_eq, decide_eq_false_iff_not]; omega) | (simp only [Value.bool.injEq, decide_eq_true_eq, decide_eq_false_iff_not]; omega), rfl⟩)
                      | (exfalso; omega)
                · have c2j : ¬ (st : Int) < (mid : Int) := by omega
                  have c2v : decide ((st : Int) < (mid : Int)) = false := decide_eq_false c2j
                  have c2w : decide (st < mid) = false := decide_eq_false c2b
                  have c2d : decide (a < st ∧ st < mid) = false := decide_eq_false (fun h => c2b h.2)
                  go_wp2_with fail
                  all_goals
                    first
                      | (go_meet; exact ⟨by first | (rw [c2d]; done) | (rw [c2d, c2w]; done) | (rw [c2d, c2x]; done) | (rw [c2d]; simp only [Value.bool.injEq, decide_eq_true_eq, decide_eq_false_iff_not]; omega) | (simp only [Value.bool.injEq, decide_eq_true_eq, decide_eq_false_iff_not]; omega), rfl⟩)
                      | (exfalso; omega)
              · have c2i : ¬ (a : Int) < (st : Int) := by omega
                have c2u : decide ((a : Int) < (st : Int)) = false := decide_eq_false c2i
                have c2x : decide (a < st) = false := decide_eq_false c2a
                have c2d : decide (a < st ∧ st < mid) = false := decide_eq_false (fun h => c2a h.1)
                go_wp2_with fail
                all_goals
                  first
                    | (go_meet; exact ⟨by first | (rw [c2d]; done) | (rw [c2d, c2w]; done) | (rw [c2d, c2x]; done) | (rw [c2d]; simp only [Value.bool.injEq, decide_eq_true_eq, decide_eq_false_iff_not]; omega) | (simp only [Value.bool.injEq, decide_eq_true_eq, decide_eq_false_iff_not]; omega), rfl⟩)
                    | (exfalso; omega)
            case rest =>
            obtain ⟨rfl, rfl⟩ := hcut
            obtain ⟨wr, rfl⟩ : ∃ W, W = wc := ⟨wc, rfl⟩
            go_upto_if 199 with fail
            obtain ⟨gc2, hg⟩ : ∃ g, g = decide (a < st ∧ st < mid) := ⟨_, rfl⟩
            rw [← hg]
            have HGc2 := hid hg
            clear hg
            go_cut [205] from 200 to 205 (fun _ wc => ∃ zs : List Nat, Hid (zs.Perm xs) ∧ Hid (RowI wc base b cap n zs) ∧ Hid (BarZ w b wc))
            case first =>
              cases gc2 with
              | true =>
                obtain ⟨c2a, c2b⟩ : a < st ∧ st < mid := of_decide_eq_true HGc2.out.symm
                have HCN := hid (IH.out (mid - a) (by have := HKE.out; omega) ys a st mid wr HR.out (Nat.le_refl _) c2a c2b (by omega) (HC.out.go HP.out HB.out) rfl)
                go_wp2_with fail
                with_reducible refine HCN.out.mono ?_
                rintro e w7 ⟨rfl, ys7, hp7, hr7, hb7⟩
                have HP7 := hid (hp7.trans HP.out)
                have HR7 := hid hr7
                have HB7 := hid (HB.out.trans hb7)
                clear hp7 hr7 hb7
                go_wp2_with fail
                go_meet
                exact ⟨ys7, HP7, HR7, HB7⟩
              | false =>
                go_wp2_with fail
                go_meet
                exact ⟨ys, HP, HR, HB⟩
            case rest =>
            clear HP HR HB
            obtain ⟨ys, HP, HR, HB⟩ := hcut
            obtain ⟨wr, rfl⟩ : ∃ W, W = wc := ⟨wc, rfl⟩
            go_upto_region 43 with fail
            go_cut [213] from 206 to 213 (fun sv wc => sv = .bool (decide (mid < en ∧ en < c)) ∧ wc = wr)
            case first =>
              by_cases c3a : mid < en
              · have c3i : (mid : Int) < (en : Int) := by omega
                have c3u : decide ((mid : Int) < (en : Int)) = true := decide_eq_true c3i
                have c3x : decide (mid < en) = true := decide_eq_true c3a
                by_cases c3b : en < c
                · have c3j : (en : Int) < (c : Int) := by omega
                  have c3v : decide ((en : Int) < (c : Int)) = true := decide_eq_true c3j
                  have c3w : decide (en < c) = true := decide_eq_true c3b
                  have c3d : decide (mid < en ∧ en < c) = true := decide_eq_true ⟨c3a, c3b⟩
                  go_wp2_with fail
                  all_goals
                    first
                      | (go_meet; exact ⟨by first | (rw [c3d]; done) | (rw [c3d, c3w]; done) | (rw [c3d, c3x]; done) | (rw [c3d]; simp only [Value.bool.injEq, decide_eq_true_eq, decide_eq_false_iff_not]; omega) | (simp only [Value.bool.injEq, decide_eq_true_eq, decide_eq_false_iff_not]; omega), rfl⟩)
                      | (exfalso; omega)
                · have c3j : ¬ (en : Int) < (c : Int) := by omega
                  have c3v : decide ((en : Int) < (c : Int)) = false := decide_eq_false c3j
                  have c3w : decide (en < c) = false := decide_eq_false c3b
                  have c3d : decide (mid < en ∧ en < c) = false := decide_eq_false (fun h => c3b h.2)
                  go_wp2_with fail
                  all_goals
                    first
                      | (go_meet; exact ⟨by first | (rw [c3d]; done) | (rw [c3d, c3w]; done) | (rw [c3d, c3x]; done) | (rw [c3d]; simp only [Value.bool.injEq, decide_eq_true_eq, decide_eq_false_iff_not]; omega) | (simp only [Value.bool.injEq, decide_eq_true_eq, decide_eq_false_iff_not]; omega), rfl⟩)
                      | (exfalso; omega)
              · have c3i : ¬ (mid : Int) < (en : Int) := by omega
                have c3u : decide ((mid : Int) < (en : Int)) = false := decide_eq_false c3i
                have c3x : decide (mid < en) = false := decide_eq_false c3a
                have c3d : decide (mid < en ∧ en < c) = false := decide_eq_false (fun h => c3a h.1)
                go_wp2_with fail
                all_goals
                  first
                    | (go_meet; exact ⟨by first | (rw [c3d]; done) | (rw [c3d, c3w]; done) | (rw [c3d, c3x]; done) | (rw [c3d]; simp only [Value.bool.injEq, decide_eq_true_eq, decide_eq_false_iff_not]; omega) | (simp only [Value.bool.injEq, decide_eq_true_eq, decide_eq_false_iff_not]; omega), rfl⟩)
                    | (exfalso; omega)
            case rest =>
            obtain ⟨rfl, rfl⟩ := hcut
            obtain ⟨wr, rfl⟩ : ∃ W, W = wc := ⟨wc, rfl⟩
            go_upto_if 213 with fail
            obtain ⟨gc3, hg⟩ : ∃ g, g = decide (mid < en ∧ en < c) := ⟨_, rfl⟩
            rw [← hg]
            have HGc3 := hid hg
            clear hg
            cases gc3 with
            | true =>
              obtain ⟨c3a, c3b⟩ : mid < en ∧ en < c := of_decide_eq_true HGc3.out.symm
              have HCN := hid (IH.out (c - mid) (by have := HKE.out; omega) ys mid en c wr HR.out (Nat.le_refl _) c3a c3b hc (HC.out.go HP.out HB.out) rfl)
              go_wp2_with fail
              with_reducible refine HCN.out.mono ?_
              rintro e w7 ⟨rfl, ys7, hp7, hr7, hb7⟩
              have HF : Hid (PermP w base b cap n xs (.returned (.tuple #[])) w7) := hid ⟨rfl, ys7, hp7.trans HP.out, hr7, HB.out.trans hb7⟩
              clear hp7 hr7 hb7
              go_wp2
              go_end0
              exact HF.out
            | false =>
              have HF : Hid (PermP w base b cap n xs (.returned (.tuple #[])) wr) := hid ⟨rfl, ys, HP.out, HR.out, HB.out⟩
              go_wp2
              go_end0
              exact HF.out
      · have hc1 : ¬ (mid : Int) < (m : Int) := by omega
        have hc1d : decide ((mid : Int) < (m : Int)) = false := decide_eq_false hc1
        clear h1
        have h2' := h2.symm
        have h3' := h3.symm
        clear h2 h3
        subst h2' h3'
        go_enter Tryz.func215, Tryz.ntmps215
        generalize hLA : Code.loop _ = LA
        go_wp2_with fail
        subst hLA
        
        go_loopg [20, 21] (m - a) (fun K iv jv wr => ∃ p q : Nat, iv = .int .i64 (p : Int) ∧ jv = .int .i64 (q : Int) ∧ q = p + K ∧ a ≤ p ∧ q ≤ m ∧ Hid (BarZ w b wr) ∧ Hid (RowI wr base b cap n xs))
        case atStart => exact ⟨a, m, rfl, rfl, by omega, by omega, by omega, hid (BarZ.refl _ _), H⟩
        case round =>
          obtain ⟨p, q, rfl, rfl, hpq, hp0, hq0, HB, HR⟩ := hrel
          obtain ⟨ys, hys⟩ : ∃ ys, ys = xs := ⟨_, rfl⟩
          rw [← hys] at HR
          have HP : Hid (ys.Perm xs) := hid (by rw [hys])
          have HYS := hid hys
          clear hys
          by_cases hp : 0 < gk
          · have hlt : (p : Int) < (q : Int) := by omega
            obtain ⟨t, ht⟩ : ∃ t, t = (p + q) / 2 := ⟨_, rfl⟩
            have hf1 : (p + q) / 2 = t := ht.symm
            have hf2 : ((p : Int) + (q : Int)) / 2 = (t : Int) := by omega
            have htp : p ≤ t := by omega
            have htq : t < q := by omega
            have HPQ := hid hpq
            clear hpq ht
            have hi : t < n := by have := HM.out; have := HS0.out; omega
            obtain ⟨pt, hpt⟩ : ∃ z, z = pp - t := ⟨_, rfl⟩
            have hptf : (pp : Int) - (t : Int) = (pt : Int) := by have := HM.out; have := HS0.out; omega
            have hptw : IntKind.i64.wrap ((pp : Int) - (t : Int)) = (pt : Int) := by rw [IntKind.wrap_i64]; omega
            have hj : pt < n := by have := HM.out; have := HS0.out; omega
            have hptw2 : IntKind.i64.wrap (pt : Int) = (pt : Int) := by rw [IntKind.wrap_i64]; omega
            have hpt0 : (0 : Int) ≤ (pt : Int) := by omega
            have ht0 : (0 : Int) ≤ (t : Int) := by omega
            clear hpt
            have hii : (t : Int) < (n : Int) := by omega
            have hjj : (pt : Int) < (n : Int) := by omega
            have k0 := HR.out.at hi
            have k1 := HR.out.at hj
            have hu : ys.getD t 0 ∈ xs := HP.out.mem_iff.1 (getD_mem (by rw [HR.out.1]; exact hi) 0)
            have hv : ys.getD pt 0 ∈ xs := HP.out.mem_iff.1 (getD_mem (by rw [HR.out.1]; exact hj) 0)
            have HG := hid (fun W (hW : Below wr.heap.size wr W) => (⟨(HR.out.later hW).at hi, (HR.out.later hW).at hj⟩ : W.cell? ⟨b, t, none⟩ = some (.int .i64 ((ys.getD t 0 : Nat) : Int)) ∧ W.cell? ⟨b, pt, none⟩ = some (.int .i64 ((ys.getD pt 0 : Nat) : Int))))
            have HD := hid ((Below.refl wr.heap.size wr).drew)
            have HQ := hid (fun W (hW : Below wr.heap.size wr W) => HC.out W (HB.out.quiet hW) _ hv _ hu)
            generalize hU : ys.getD t 0 = u at *
            generalize hV : ys.getD pt 0 = v at *
            have HU := hid hU
            have HV := hid hV
            clear hU hV hu hv
            go_upto_region 35 with fail
            go_region_held3 (fun W => W.cell? ⟨b, t, none⟩ = some (.int .i64 (u : Int)) ∧ W.cell? ⟨b, pt, none⟩ = some (.int .i64 (v : Int)))
              (first | exact HG.out _ HD.out | exact HG.out _ HD5.out | go_keep)
              ((go_at_call 154; go_must ((with_reducible refine (HQ.out _ HD.out).mono ?_); rintro e w5 ⟨⟨z, rfl⟩, hb5⟩; have HD5 := hid (HD.out.trans (hb5.mono HD.out.size)); clear hb5)))
            clear k0 k1
            have HR5 := hid (HR.out.later HD5.out)
            have HB5 := hid (HB.out.quiet HD5.out)
            clear HG HQ HD HD5 HR HB
            go_wp2_with fail
            all_goals
              first
                | (go_roundg (q - (t + 1))
                   case rel => exact ⟨t + 1, q, by go_num, rfl, by omega, by omega, by omega, HB5, by rw [← HYS.out]; exact HR5⟩
                   case measure => have := HPQ.out; omega)
                | (go_roundg (t - p)
                   case rel => exact ⟨p, t, rfl, by go_num, by omega, by omega, by omega, HB5, by rw [← HYS.out]; exact HR5⟩
                   case measure => have := HPQ.out; omega)
          · obtain rfl : gk = 0 := by omega
            obtain rfl : q = p := by omega
            clear hpq
            obtain ⟨en, hen⟩ : ∃ z, z = nn - q := ⟨_, rfl⟩
            have heni : (nn : Int) - (q : Int) = (en : Int) := by have := HM.out; have := HS0.out; omega
            have hen1 : en ≤ n := by have := HM.out; have := HS0.out; omega
            clear hen
            obtain ⟨st, hst⟩ : ∃ st, st = q := ⟨_, rfl⟩
            subst hst
            clear HYS
            go_upto_region 39 with fail
            go_cut [185] from 178 to 185 (fun sv wc => sv = .bool (decide (st < m ∧ m < en)) ∧ wc = wr)
            case first =>
              by_cases c1a : st < m
              · have c1i : (st : Int) < (m : Int) := by omega
                have c1u : decide ((st : Int) < (m : Int)) = true := decide_eq_true c1i
                have c1x : decide (st < m) = true := decide_eq_true c1a
                by_cases c1b : m < en
                · have c1j : (m : Int) < (en : Int) := by omega
                  have c1v : decide ((m : Int) < (en : Int)) = true := decide_eq_true c1j
                  have c1w : decide (m < en) = true := decide_eq_true c1b
                  have c1d : decide (st < m ∧ m < en) = true := decide_eq_true ⟨c1a, c1b⟩
                  go_wp2_with fail
                  all_goals
                    first
                      | (go_meet; exact ⟨by first | (rw [c1d]; done) | (rw [c1d, c1w]; done) | (rw [c1d, c1x]; done) | (rw [c1d]; simp only [Value.bool.injEq, decide_eq_true_eq, decide_eq_false_iff_not]; omega) | (simp only [Value.bool.injEq, decide_eq_true_eq, decide_eq_false_iff_not]; omega), rfl⟩)
                      | (exfalso; omega)
                · have c1j : ¬ (m : Int) < (en : Int) := by omega
                  have c1v : decide ((m : Int) < (en : Int)) = false := decide_eq_false c1j
                  have c1w : decide (m < en) = false := decide_eq_false c1b
                  have c1d : decide (st < m ∧ m < en) = false := decide_eq_false (fun h => c1b h.2)
                  go_wp2_with fail
                  all_goals
                    first
                      | (go_meet; exact ⟨by first | (rw [c1d]; done) | (rw [c1d, c1w]; done) | (rw [c1d, c1x]; done) | (rw [c1d]; simp only [Value.bool.injEq, decide_eq_true_eq, decide_eq_false_iff_not]; omega) | (simp only [Value.bool.injEq, decide_eq_true_eq, decide_eq_false_iff_not]; omega), rfl⟩)
                      | (exfalso; omega)
              · have c1i : ¬ (st : Int) < (m : Int) := by omega
                have c1u : decide ((st : Int) < (m : Int)) = false := decide_eq_false c1i
                have c1x : decide (st < m) = false := decide_eq_false c1a
                have c1d : decide (st < m ∧ m < en) = false := decide_eq_false (fun h => c1a h.1)
                go_wp2_with fail
                all_goals
                  first
                    | (go_meet; exact ⟨by first | (rw [c1d]; done) | (rw [c1d, c1w]; done) | (rw [c1d, c1x]; done) | (rw [c1d]; simp only [Value.bool.injEq, decide_eq_true_eq, decide_eq_false_iff_not]; omega) | (simp only [Value.bool.injEq, decide_eq_true_eq, decide_eq_false_iff_not]; omega), rfl⟩)
                    | (exfalso; omega)
            case rest =>
            obtain ⟨rfl, rfl⟩ := hcut
            obtain ⟨wr, rfl⟩ : ∃ W, W = wc := ⟨wc, rfl⟩
            go_upto_if 185 with fail
            obtain ⟨gc1, hg⟩ : ∃ g, g = decide (st < m ∧ m < en) := ⟨_, rfl⟩
            rw [← hg]
            have HGc1 := hid hg
            clear hg
            go_cut [191] from 186 to 191 (fun _ wc => ∃ zs : List Nat, Hid (zs.Perm xs) ∧ Hid (RowI wc base b cap n zs) ∧ Hid (BarZ w b wc))
            case first =>
              cases gc1 with
              | true =>
                obtain ⟨c1a, c1b⟩ : st < m ∧ m < en := of_decide_eq_true HGc1.out.symm
                have HCN := hid (rotateN ys base b cap n st m en (.func (.func 154) #[] #[.pointer (some ⟨xb, 0, none⟩)]) wr HR.out c1a c1b (by omega) hn)
                go_wp2_with fail
                with_reducible refine HCN.out.mono ?_
                rintro e w7 ⟨rfl, ys7, hp7, hr7, hb7⟩
                have HP7 := hid (hp7.trans HP.out)
                have HR7 := hid hr7
                have HB7 := hid (HB.out.trans hb7)
                clear hp7 hr7 hb7
                go_wp2_with fail
                go_meet
                exact ⟨ys7, HP7, HR7, HB7⟩
              | false =>
                go_wp2_with fail
                go_meet
                exact ⟨ys, HP, HR, HB⟩
            case rest =>
            clear HP HR HB
            obtain ⟨ys, HP, HR, HB⟩ := hcut
            obtain ⟨wr, rfl⟩ : ∃ W, W = wc := ⟨wc, rfl⟩
            go_upto_region 41 with fail
            go_cut [199] from 192 to 199 (fun sv wc => sv = .bool (decide (a < st ∧ st < mid)) ∧ wc = wr)
            case first =>
              by_cases c2a : a < st
              · have c2i : (a : Int) < (st : Int) := by omega
                have c2u : decide ((a : Int) < (st : Int)) = true := decide_eq_true c2i
                have c2x : decide (a < st) = true := decide_eq_true c2a
                by_cases c2b : st < mid
                · have c2j : (st : Int) < (mid : Int) := by omega
                  have c2v : decide ((st : Int) < (mid : Int)) = true := decide_eq_true c2j
                  have c2w : decide (st < mid) = true := decide_eq_true c2b
                  have c2d : decide (a < st ∧ st < mid) = true := decide_eq_true ⟨c2a, c2b⟩
                  go_wp2_with fail
                  all_goals
                    first
                      | (go_meet; exact ⟨by first | (rw [c2d]; done) | (rw [c2d, c2w]; done) | (rw [c2d, c2x]; done) | (rw [c2d]; simp only [Value.bool.injEq, decide_eq_true_eq, decide_eq_false_iff_not]; omega) | (simp only [Value.bool.injEq, decide_eq_true_eq, decide_eq_false_iff_not]; omega), rfl⟩)
                      | (exfalso; omega)
                · have c2j : ¬ (st : Int) < (mid : Int) := by omega
                  have c2v : decide ((st : Int) < (mid : Int)) = false := decide_eq_false c2j
                  have c2w : decide (st < mid) = false := decide_eq_false c2b
                  have c2d : decide (a < st ∧ st < mid) = false := decide_eq_false (fun h => c2b h.2)
                  go_wp2_with fail
                  all_goals
                    first
                      | (go_meet; exact ⟨by first | (rw [c2d]; done) | (rw [c2d, c2w]; done) | (rw [c2d, c2x]; done) | (rw [c2d]; simp only [Value.bool.injEq, decide_eq_true_eq, decide_eq_false_iff_not]; omega) | (simp only [Value.bool.injEq, decide_eq_true_eq, decide_eq_false_iff_not]; omega), rfl⟩)
                      | (exfalso; omega)
              · have c2i : ¬ (a : Int) < (st : Int) := by omega
                have c2u : decide ((a : Int) < (st : Int)) = false := decide_eq_false c2i
                have c2x : decide (a < st) = false := decide_eq_false c2a
                have c2d : decide (a < st ∧ st < mid) = false := decide_eq_false (fun h => c2a h.1)
                go_wp2_with fail
                all_goals
                  first
                    | (go_meet; exact ⟨by first | (rw [c2d]; done) | (rw [c2d, c2w]; done) | (rw [c2d, c2x]; done) | (rw [c2d]; simp only [Value.bool.injEq, decide_eq_true_eq, decide_eq_false_iff_not]; omega) | (simp only [Value.bool.injEq, decide_eq_true_eq, decide_eq_false_iff_not]; omega), rfl⟩)
                    | (exfalso; omega)
            case rest =>
            obtain ⟨rfl, rfl⟩ := hcut
            obtain ⟨wr, rfl⟩ : ∃ W, W = wc := ⟨wc, rfl⟩
            go_upto_if 199 with fail
            obtain ⟨gc2, hg⟩ : ∃ g, g = decide (a < st ∧ st < mid) := ⟨_, rfl⟩
            rw [← hg]
            have HGc2 := hid hg
            clear hg
            go_cut [205] from 200 to 205 (fun _ wc => ∃ zs : List Nat, Hid (zs.Perm xs) ∧ Hid (RowI wc base b cap n zs) ∧ Hid (BarZ w b wc))
            case first =>
              cases gc2 with
              | true =>
                obtain ⟨c2a, c2b⟩ : a < st ∧ st < mid := of_decide_eq_true HGc2.out.symm
                have HCN := hid (IH.out (mid - a) (by have := HKE.out; omega) ys a st mid wr HR.out (Nat.le_refl _) c2a c2b (by omega) (HC.out.go HP.out HB.out) rfl)
                go_wp2_with fail
                with_reducible refine HCN.out.mono ?_
                rintro e w7 ⟨rfl, ys7, hp7, hr7, hb7⟩
                have HP7 := hid (hp7.trans HP.out)
                have HR7 := hid hr7
                have HB7 := hid (HB.out.trans hb7)
                clear hp7 hr7 hb7
                go_wp2_with fail
                go_meet
                exact ⟨ys7, HP7, HR7, HB7⟩
              | false =>
                go_wp2_with fail
                go_meet
                exact ⟨ys, HP, HR, HB⟩
            case rest =>
            clear HP HR HB
            obtain ⟨ys, HP, HR, HB⟩ := hcut
            obtain ⟨wr, rfl⟩ : ∃ W, W = wc := ⟨wc, rfl⟩
            go_upto_region 43 with fail
            go_cut [213] from 206 to 213 (fun sv wc => sv = .bool (decide (mid < en ∧ en < c)) ∧ wc = wr)
            case first =>
              by_cases c3a : mid < en
              · have c3i : (mid : Int) < (en : Int) := by omega
                have c3u : decide ((mid : Int) < (en : Int)) = true := decide_eq_true c3i
                have c3x : decide (mid < en) = true := decide_eq_true c3a
                by_cases c3b : en < c
                · have c3j : (en : Int) < (c : Int) := by omega
                  have c3v : decide ((en : Int) < (c : Int)) = true := decide_eq_true c3j
                  have c3w : decide (en < c) = true := decide_eq_true c3b
                  have c3d : decide (mid < en ∧ en < c) = true := decide_eq_true ⟨c3a, c3b⟩
                  go_wp2_with fail
                  all_goals
                    first
                      | (go_meet; exact ⟨by first | (rw [c3d]; done) | (rw [c3d, c3w]; done) | (rw [c3d, c3x]; done) | (rw [c3d]; simp only [Value.bool.injEq, decide_eq_true_eq, decide_eq_false_iff_not]; omega) | (simp only [Value.bool.injEq, decide_eq_true_eq, decide_eq_false_iff_not]; omega), rfl⟩)
                      | (exfalso; omega)
                · have c3j : ¬ (en : Int) < (c : Int) := by omega
                  have c3v : decide ((en : Int) < (c : Int)) = false := decide_eq_false c3j
                  have c3w : decide (en < c) = false := decide_eq_false c3b
                  have c3d : decide (mid < en ∧ en < c) = false := decide_eq_false (fun h => c3b h.2)
                  go_wp2_with fail
                  all_goals
                    first
                      | (go_meet; exact ⟨by first | (rw [c3d]; done) | (rw [c3d, c3w]; done) | (rw [c3d, c3x]; done) | (rw [c3d]; simp only [Value.bool.injEq, decide_eq_true_eq, decide_eq_false_iff_not]; omega) | (simp only [Value.bool.injEq, decide_eq_true_eq, decide_eq_false_iff_not]; omega), rfl⟩)
                      | (exfalso; omega)
              · have c3i : ¬ (mid : Int) < (en : Int) := by omega
                have c3u : decide ((mid : Int) < (en : Int)) = false := decide_eq_false c3i
                have c3x : decide (mid < en) = false := decide_eq_false c3a
                have c3d : decide (mid < en ∧ en < c) = false := decide_eq_false (fun h => c3a h.1)
                go_wp2_with fail
                all_goals
                  first
                    | (go_meet; exact ⟨by first | (rw [c3d]; done) | (rw [c3d, c3w]; done) | (rw [c3d, c3x]; done) | (rw [c3d]; simp only [Value.bool.injEq, decide_eq_true_eq, decide_eq_false_iff_not]; omega) | (simp only [Value.bool.injEq, decide_eq_true_eq, decide_eq_false_iff_not]; omega), rfl⟩)
                    | (exfalso; omega)
            case rest =>
            obtain ⟨rfl, rfl⟩ := hcut
            obtain ⟨wr, rfl⟩ : ∃ W, W = wc := ⟨wc, rfl⟩
            go_upto_if 213 with fail
            obtain ⟨gc3, hg⟩ : ∃ g, g = decide (mid < en ∧ en < c) := ⟨_, rfl⟩
            rw [← hg]
            have HGc3 := hid hg
            clear hg
            cases gc3 with
            | true =>
              obtain ⟨c3a, c3b⟩ : mid < en ∧ en < c := of_decide_eq_true HGc3.out.symm
              have HCN := hid (IH.out (c - mid) (by have := HKE.out; omega) ys mid en c wr HR.out (Nat.le_refl _) c3a c3b hc (HC.out.go HP.out HB.out) rfl)
              go_wp2_with fail
              with_reducible refine HCN.out.mono ?_
              rintro e w7 ⟨rfl, ys7, hp7, hr7, hb7⟩
              have HF : Hid (PermP w base b cap n xs (.returned (.tuple #[])) w7) := hid ⟨rfl, ys7, hp7.trans HP.out, hr7, HB.out.trans hb7⟩
              clear hp7 hr7 hb7
              go_wp2
              go_end0
              exact HF.out
            | false =>
              have HF : Hid (PermP w base b cap n xs (.returned (.tuple #[])) wr) := hid ⟨rfl, ys, HP.out, HR.out, HB.out⟩
              go_wp2
              go_end0
              exact HF.out
theorem sym_merge (xb base b cap n : Nat) (hn : n ≤ 1048576) (k : Nat) : MergeP xb base b cap n k := by
  induction k using Nat.strongRecOn with
  | ind k ih => exact sym_step xb base b cap n k hn ih
end Go.Proofs.YtikiimlmoalbcaaGreatDoor
