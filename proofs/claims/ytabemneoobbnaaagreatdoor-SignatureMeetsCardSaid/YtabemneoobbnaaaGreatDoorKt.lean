/- The walk of SignatureMeets. -/
import Derived.Test.YtabemneoobbnaaaGreatDoorKs
import Derived.Test.YtabemneoobbnaaaGreatDoorGx
import Derived.Test.YtabemneoobbnaaaGreatDoorCm
namespace Go.Proofs.YtabemneoobbnaaaGreatDoor
open Go.RowKit

theorem word_small {x : ByteArray} (h : x ∈ wordsL) : x.size ≤ maxLen := by
  have := words_size x h
  unfold maxLen
  omega
set_option maxRecDepth 100000 in
set_option maxHeartbeats 4000000 in
theorem law17_meets (sa : Option Addr) (sn sc nd : Nat) (hnd : nd < 256) (w : World) (hs : RdU w w.heap.size sa sn sc) (hT : Tabs w) :
    Calls Tryz.prog 3 #[.slice sa sn sc, .int .u8 (nd : Int)] w (Ret w (.bool true)) := by
  obtain ⟨i0, hi, hz0, hz1, hz2⟩ := info_parts info_str
  have HS := hid hs
  have HT := hid hT
  clear hs hT
  go_enter Tryz.func3, Tryz.ntmps3
  generalize hLA : Code.loop _ = LA
  go_wp2_with fail
  with_reducible refine (law17_sane _ HT.out).mono ?_
  rintro e w1 ⟨rfl, hb1⟩
  have HB1 := hid hb1
  have hu1 : RdU w1 w1.heap.size sa sn sc := by
    obtain ⟨h1, h2, h3⟩ := HS.out
    refine ⟨h1, h2, fun hp => ?_⟩
    obtain ⟨b, o, e, hlt, hc⟩ := h3 hp
    exact ⟨b, o, e, by have := hb1.size; omega, fun i hi => by
      obtain ⟨x, hx, hcx⟩ := hc i hi
      exact ⟨x, hx, (hb1.cell (p := ⟨b, o + i, none⟩) hlt).trans hcx⟩⟩
  have HU1 := hid hu1
  have hz1' := hb1.size
  clear hb1 hu1
  go_wp2_with fail
  with_reducible refine (mill_New sa sn sc _ HU1.out).mono ?_
  rintro e w2 ⟨rfl, hd2, hb2⟩
  have HD2 := hid hd2
  have HB2 := hid (HB1.out.trans (hb2.mono HB1.out.size))
  have hgw : w.heap.size ≤ w1.heap.size := hz1'
  clear hd2 hb2 HU1
  generalize w1.heap.size = g at *
  go_wp2_with fail
  with_reducible refine (dice_Texts g 14 w2 HD2.out (by omega) (by omega)).mono ?_
  rintro e w3 ⟨oa, oc, O, rfl, hown, hol, hmem, hd3, hr3⟩
  have HOWN := hid hown
  have HMEM := hid hmem
  have HD3 := hid hd3
  have HB3 := hid (HB2.out.trans (hr3.below (B' := w.heap.size) (by omega) HB2.out.size))
  have hg2 := HD2.out.lt
  have hz3 := hr3.size
  clear hown hmem hd3 hr3
  go_wp2_with fail
  with_reducible refine (mill_Words _).mono ?_
  rintro e w4 ⟨rfl, rfl⟩
  have HWC := hid (fun r h => words_cell w3 r h)
  have HO4 := hid (HOWN.out.alloc (.cells wordsC 9))
  have HD4 := hid (HD3.out.alloc (.cells wordsC 9))
  have HB4 := hid (HB3.out.alloc HB3.out.size (.cells wordsC 9))
  have hz4 : (w3.alloc (.cells wordsC 9)).heap.size = w3.heap.size + 1 := by simp
  have HLT := hid (fun k (hk : (Value.slice oa O.length oc).ownBlock = some k) => (HOWN.out.lt k hk).2)
  generalize hol' : O.length = ol at *
  have HOL := hid hol'
  clear hol'
  go_wp2_with fail
  generalize w3.alloc (.cells wordsC 9) = w4 at *
  generalize hwb : w3.heap.size = wb at *
  clear hwb
  subst hLA
  go_loopg [6, 22] 16 (fun N v i wr => ∃ (q : Nat) (acc : List ByteArray), q + N = 16 ∧ i = .int .i64 (q : Int) ∧ acc.length ≤ 14 + q ∧ Hid (wr.ownsRow w2.heap.size 9 1 v acc.length (acc.map Value.string) ∧ (∀ x ∈ acc, x ∈ wordsL) ∧ v.ownBlock ≠ some wb ∧ (∀ r, r < 16 → wr.cell? ⟨wb, r, none⟩ = some (.string (wordsL.getD r ⟨#[]⟩))) ∧ DiceAt 87 wr g ∧ Below w.heap.size w wr ∧ wb < wr.heap.size))
  case atStart => exact ⟨0, O, by omega, rfl, by rw [HOL.out]; omega, hid ⟨by rw [HOL.out]; exact HO4.out, HMEM.out, fun e => by have := HLT.out _ e; omega, HWC.out, HD4.out, HB4.out, by omega⟩⟩
  case round =>
    obtain ⟨q, acc, hq, rfl, hal, HST⟩ := hrel
    obtain ⟨a5, c5, rfl⟩ := own_slice HST.out.1
    by_cases hp : 0 < gk
    · have k0 := HST.out.2.2.2.1 q (by omega)
      have HHS := hid (ref_Has (.slice a5 acc.length c5) acc (wordsL.getD q ⟨#[]⟩) wr.heap.size wr (rdS_of_own HST.out.1))
      have HWM : Hid (wordsL.getD q ⟨#[]⟩ ∈ wordsL) := hid (word_mem q (by omega))
      have hq16 : q < 16 := by omega
      generalize wordsL.getD q ⟨#[]⟩ = x at *
      generalize hacl : acc.length = al at *
      have HAL := hid hacl
      clear hacl
      cases hhas : hasL acc x with
      | true =>
        rw [hhas] at HHS
        go_wp2_with fail
        with_reducible refine HHS.out.mono ?_
        rintro e w5 ⟨rfl, k5, rfl⟩
        clear k0
        go_wp2_with fail
        go_roundg (gk - 1)
        case rel => exact ⟨q + 1, acc, by omega, by go_num, by rw [HAL.out]; omega, hid ⟨by rw [HAL.out]; exact own_drewN HST.out.1 k5, HST.out.2.1, HST.out.2.2.1, HST.out.2.2.2.1, HST.out.2.2.2.2.1.drewN k5, below_drewN (n := k5) HST.out.2.2.2.2.2.1, HST.out.2.2.2.2.2.2⟩⟩
        case measure => omega
      | false =>
        rw [hhas] at HHS
        go_wp2_with fail
        with_reducible refine HHS.out.mono ?_
        rintro e w5 ⟨rfl, k5, rfl⟩
        clear k0
        have HO5 := hid (own_drewN HST.out.1 k5)
        have HW5 : Hid (∀ r, r < 16 → (wr.drewN k5).cell? ⟨wb, r, none⟩ = some (.string (wordsL.getD r ⟨#[]⟩))) := hid HST.out.2.2.2.1
        have HD5 : Hid (DiceAt 87 (wr.drewN k5) g) := hid (HST.out.2.2.2.2.1.drewN k5)
        have HB5 := hid (below_drewN (n := k5) HST.out.2.2.2.2.2.1)
        have hwz5 : wb < (wr.drewN k5).heap.size := HST.out.2.2.2.2.2.2
        have HNB := hid HST.out.2.2.1
        have HMM := hid HST.out.2.1
        clear HST
        generalize wr.drewN k5 = w5 at *
        have hw25 := HB5.out.size
        go_wp2_with (at_builtin; refine wpList_append_form _ rfl _ _ 26 26 rfl w2.heap.size 9 9 i0 (.string ⟨#[]⟩) 1 16 Tryz.underlying26 Tryz.underlying26 hi hz0 hz1 hz2 rfl (by decide) (.slice a5 al c5) al (acc.map Value.string) rfl (HO5.out.alloc _) (some ⟨_, 0, none⟩) 1 1 [.string x] rfl rfl (fun _ => ⟨_, rfl, cell_one_at _ _ (by simp)⟩) (by intro u hu; simp at hu; subst hu; rfl) (by omega) (by unfold maxLen; omega) (by omega) (by simp; omega) ?_; intro p9 cap9 w9 hown9 hg9 hat9 hlt9; have HOWN9 := hid hown9; have HAT9 := hid hat9; have HG9 := hid ((World.grownBy_alloc _ _ _).trans hg9); clear hown9 hg9 hat9)
        have hgl := HD5.out.lt
        have hs9 := HG9.out.size
        have HN9 : Hid ((Value.slice (some ⟨p9, 0, none⟩) (al + 1) cap9).ownBlock ≠ some wb) := hid (fun e => by
          have e1 : p9 = wb := by simpa [Value.ownBlock] using e
          rcases HAT9.out with h1 | h1
          · exact HNB.out (by rw [h1, e1])
          · simp at h1; omega)
        have HW9 : Hid (∀ r, r < 16 → w9.cell? ⟨wb, r, none⟩ = some (.string (wordsL.getD r ⟨#[]⟩))) := hid (fun r hr => (World.cell?_of_block (HG9.out.block wb hwz5 (fun e => HNB.out e.symm))).trans (HW5.out r hr))
        have HD9 : Hid (DiceAt 87 w9 g) := hid (HD5.out.keep fun k hk => HG9.out.block k (by omega) (fun e => by have := (HO5.out.lt k e.symm).1; omega))
        have HB9 : Hid (Below w.heap.size w w9) := hid (HB5.out.grown HG9.out HB5.out.size (fun k hk => by have := (HO5.out.lt k hk).1; have := HB2.out.size; omega))
        go_wp2
        go_roundg (gk - 1)
        case rel => exact ⟨q + 1, acc ++ [x], by omega, by go_num, by rw [List.length_append, List.length_singleton, HAL.out]; omega, hid ⟨by rw [List.length_append, List.length_singleton, HAL.out, List.map_append]; exact HOWN9.out, fun y hy => by
          rcases List.mem_append.1 hy with h | h
          · exact HMM.out y h
          · rw [List.mem_singleton.1 h]; exact HWM.out, HN9.out, HW9.out, HD9.out, HB9.out, by omega⟩⟩
        case measure => omega
    · obtain rfl : q = 16 := by omega
      have HOO := hid HST.out.1
      have HOM := hid HST.out.2.1
      have HDD := hid HST.out.2.2.2.2.1
      have HBB := hid HST.out.2.2.2.2.2.1
      clear HST
      have HIO : Hid (∀ W, Roll wr.heap.size g wr W → InS W (fun b => w2.heap.size ≤ b ∧ b < wr.heap.size) (.slice a5 acc.length c5) acc) := hid (fun W hW => (InK.keep (inS_of_own HOO.out) fun p hp => hW.cell (p := p) (HOO.out.lt _ hp).2 (by have := (HOO.out.lt _ hp).1; omega)).more fun b hb => HOO.out.lt b hb)
      have hal2 : acc.length ≤ 1048576 := by omega
      generalize hacl : acc.length = al at *
      have HAL := hid hacl
      clear hacl
      go_wp2_with fail
      with_reducible refine (dice_Texts g 12 wr HDD.out (by omega) (by omega)).mono ?_
      rintro e w5 ⟨xa, xc, X, rfl, hx5, hxl5, hxm5, hd5, hr5⟩
      have HR5 := hid hr5
      have HD5 := hid hd5
      have hgr := HDD.out.lt
      have hw0 := HBB.out.size
      have HB5 := hid (HBB.out.trans (hr5.below (B' := w.heap.size) (by omega) HBB.out.size))
      have hr5s := hr5.size
      have HRK := hid (sig_Ranks (.slice a5 al c5) (.slice xa X.length xc) acc X w5.heap.size w5 (((HIO.out w5 hr5)).more fun b hb => by omega) ((inS_of_own hx5).more fun b hb => (hx5.lt b hb).2) (Nat.le_refl _) (fun s hs => word_small (HOM.out s hs)) (fun s hs => word_small (hxm5 s hs)) (by rw [HAL.out]; exact hal2) (by omega))
      clear hx5 hxm5 hd5 hr5
      generalize hxl' : X.length = xl at *
      have HXL := hid hxl'
      clear hxl'
      go_wp2_with fail
      with_reducible refine HRK.out.mono ?_
      rintro e w6 ⟨ra, rc, rfl, hr6, hb6⟩
      have HUA : Hid (Up (rankL acc X)) := hid (upL_up _)
      have HLA : Hid ((rankL acc X).length ≤ 12) := hid (by
        have h1 := upL_len (X.filterMap (idxF acc))
        have h2 := List.length_filterMap_le (idxF acc) X
        have h3 : X.length ≤ 12 := by rw [HXL.out]; omega
        unfold rankL
        omega)
      have HA6 := hid hr6
      have HB6 := hid (HB5.out.trans (hb6.mono HB5.out.size))
      have HB56 := hid hb6
      have hg5 := HD5.out.lt
      have HD6 := hid (HD5.out.below hb6 hg5)
      have hs6 := hb6.size
      clear hr6 hb6 HRK
      generalize rankL acc X = A at *
      generalize hAl : A.length = Al at *
      have HAl := hid hAl
      clear hAl
      go_wp2_with fail
      with_reducible refine (dice_Texts g 12 w6 HD6.out (by omega) (by omega)).mono ?_
      rintro e w7 ⟨ya, yc, Y, rfl, hy7, hyl7, hym7, hd7, hr7⟩
      have HB7 := hid (HB6.out.trans (hr7.below (B' := w.heap.size) (by omega) HB6.out.size))
      have hr7s := hr7.size
      have HR7 := hid hr7
      have HA7 : Hid (∀ W, Below w7.heap.size w7 W → InN W (· < w7.heap.size) (.slice ra Al rc) A) := hid (fun W hW => by
        have h := HA6.out
        exact (InK.keep h fun p hp => (hW.cell (p := p) (by have := hp.2; omega)).trans (HR7.out.cell (p := p) hp.2 (by have := hp.1; omega))).more fun b hb => by have := hb.2; omega)
      have HRK2 := hid (sig_Ranks (.slice a5 al c5) (.slice ya Y.length yc) acc Y w7.heap.size w7 (by
        have h5 := HIO.out w5 HR5.out
        exact ((h5.keep fun p hp => (HR7.out.cell (p := p) (by have h9 := hp.2; omega) (by have h9 := hp.1; omega)).trans (HB56.out.cell (p := p) (by have h9 := hp.2; omega))).more fun b hb => by have h9 := hb.2; omega)) ((inS_of_own hy7).more fun b hb => (hy7.lt b hb).2) (Nat.le_refl _) (fun s hs => word_small (HOM.out s hs)) (fun s hs => word_small (hym7 s hs)) (by rw [HAL.out]; exact hal2) (by omega))
      clear hy7 hd7 hr7
      generalize hyl' : Y.length = yl at *
      have HYL := hid hyl'
      clear hyl'
      go_wp2_with fail
      with_reducible refine HRK2.out.mono ?_
      rintro e w8 ⟨rb, rd, rfl, hr8, hb8⟩
      have HUB : Hid (Up (rankL acc Y)) := hid (upL_up _)
      have HLB : Hid ((rankL acc Y).length ≤ 12) := hid (by
        have h1 := upL_len (Y.filterMap (idxF acc))
        have h2 := List.length_filterMap_le (idxF acc) Y
        have h3 : Y.length ≤ 12 := by rw [HYL.out]; omega
        unfold rankL
        omega)
      have HB8 := hid (HB7.out.trans (hb8.mono HB7.out.size))
      have HA8 : Hid (∀ W, Below w8.heap.size w8 W → InN W (· < w8.heap.size) (.slice ra Al rc) A) := hid (fun W hW => (HA7.out W (hb8.trans (hW.mono hb8.size))).more fun b hb => by have h9 : b < w7.heap.size := hb; have := hb8.size; omega)
      have HBB8 : Hid (∀ W, Below w8.heap.size w8 W → InN W (· < w8.heap.size) (.slice rb (rankL acc Y).length rd) (rankL acc Y)) := hid (fun W hW => (InK.keep hr8 fun p hp => hW.cell (p := p) hp.2).more fun b hb => hb.2)
      clear hr8 hb8 HRK2
      generalize rankL acc Y = B at *
      have HMT := hid (fun n h1 h2 => prefixes_meet (n := n) HUA.out HUB.out h1 h2)
      have HOLE := hid (ov_le_left A B)
      have HOLE2 : Hid (ovL A B ≤ B.length) := hid (by rw [ov_comm HUA.out HUB.out]; exact ov_le_left B A)
      obtain ⟨m, hm⟩ : ∃ m : Nat, m = nd % 5 := ⟨_, rfl⟩
      obtain ⟨nn, hnn⟩ : ∃ nn : Nat, nn = 1 + m := ⟨_, rfl⟩
      have hm1 : (nd : Int) % 5 = (m : Int) := by omega
      have hm2 : Int.tmod (nd : Int) 5 = (m : Int) := by rw [hm]; rfl
      have hn1 : (1 : Int) + (m : Int) = (nn : Int) := by omega
      have hm5 : m < 5 := by omega
      have hn5 : 1 ≤ nn ∧ nn ≤ 5 := by omega
      have HSA := hid (fun W (hW : Below w8.heap.size w8 W) => sig_Signature (.slice ra Al rc) A nn w8.heap.size W (HA8.out W hW) hW.size (by rw [HAl.out]; have := HLA.out; omega) (by omega))
      have HSB := hid (fun W (hW : Below w8.heap.size w8 W) => sig_Signature (.slice rb B.length rd) B nn w8.heap.size W (HBB8.out W hW) hW.size (by have := HLB.out; omega) (by omega))
      have HQ8 := hid (Below.refl w8.heap.size w8)
      clear hm hnn
      go_wp2_with fail
      with_reducible refine (HSA.out _ HQ8.out).mono ?_
      rintro e w9 ⟨sa9, sc9, rfl, hs9, hb9⟩
      have hpA : prefL A.length nn ≤ A.length := by unfold prefL; split <;> omega
      have hpB : prefL B.length nn ≤ B.length := by unfold prefL; split <;> omega
      have htA : (A.take (prefL A.length nn)).length = prefL A.length nn := by rw [List.length_take]; omega
      have htB : (B.take (prefL B.length nn)).length = prefL B.length nn := by rw [List.length_take]; omega
      have HTA := hid htA
      have HTB := hid htB
      rw [htA] at hs9 ⊢
      have HS9 := hid hs9
      clear htA htB
      have HB9 := hid hb9
      clear hs9 hb9
      go_wp2_with fail
      with_reducible refine (HSB.out _ HB9.out).mono ?_
      rintro e w10 ⟨sb9, sd9, rfl, hs10, hb10⟩
      rw [HTB.out] at hs10 ⊢
      have HB10 := hid (HB9.out.trans (hb10.mono HB9.out.size))
      have HOV := hid (sig_Overlap (.slice ra Al rc) (.slice rb B.length rd) A B _ _ w10 (HA8.out _ HB10.out) (HBB8.out _ HB10.out) HUA.out HUB.out)
      have HOS : Hid (∀ k, Calls Tryz.prog 15 #[.slice sa9 (prefL A.length nn) sc9, .slice sb9 (prefL B.length nn) sd9] (w10.drewN k) (Quiet (w10.drewN k) (.int .i64 ((ovL (A.take (prefL A.length nn)) (B.take (prefL B.length nn)) : Nat) : Int)))) := hid (fun k =>
        sig_Overlap _ _ _ _ _ _ (w10.drewN k) (by have h := HS9.out; rw [← HTA.out] at h ⊢; exact InK.keep (w := w9) (S := News w8 w9) h fun p hp => hb10.cell (p := p) hp.2) (by have h := hs10; rw [← HTB.out] at h ⊢; exact InK.keep (w := w10) (S := News w9 w10) h fun p hp => rfl) (up_take HUA.out _) (up_take HUB.out _))
      have HFB := hid (HB8.out.trans (HB10.out.mono HB8.out.size))
      have HM := hid (HMT.out nn hn5.1)
      have HPL : Hid (nn ≤ ovL A B → prefL A.length nn = Al - nn + 1 ∧ prefL B.length nn = B.length - nn + 1 ∧ nn ≤ Al ∧ nn ≤ B.length) := hid (fun h => by
        have h1 := HOLE.out
        have h2 := HOLE2.out
        have h3 := HAl.out
        unfold prefL
        rw [if_neg (by omega), if_neg (by omega)]
        omega)
      have hov12 : ovL A B ≤ 12 := by have := HOLE.out; have := HLA.out; have := HAl.out; omega
      have hos12 : ovL (A.take (prefL A.length nn)) (B.take (prefL B.length nn)) ≤ 12 := Nat.le_trans (ov_le_left _ _) (by rw [HTA.out]; have := HLA.out; have := HAl.out; omega)
      have hBl := HLB.out
      have hAl2 := HLA.out
      clear hs10 hb10 hpA hpB HTA HTB HS9 HA8 HBB8 HSA HSB HMT
      generalize ovL (A.take (prefL A.length nn)) (B.take (prefL B.length nn)) = os at *
      generalize ovL A B = ot at *
      generalize prefL A.length nn = pa at *
      generalize prefL B.length nn = pb at *
      generalize B.length = Bl at *
      obtain ⟨hn5a, hn5b⟩ := hn5
      by_cases hov : nn ≤ ot
      · obtain ⟨e1, e2, e3, e4⟩ := HPL.out hov
        have hos := HM.out hov
        have hd1 : decide ((ot : Int) < (nn : Int)) = false := decide_eq_false (by omega)
        have hd2 : decide ((0 : Int) < (os : Int)) = true := decide_eq_true (by omega)
        have hd3 : ((pa : Int) == (Al : Int) - (nn : Int) + 1) = true := by simp; omega
        have hd4 : ((pb : Int) == (Bl : Int) - (nn : Int) + 1) = true := by simp; omega
        have hd5 : decide ((pa : Int) = (Al : Int) - (nn : Int) + 1) = true := decide_eq_true (by omega)
        have hd6 : decide ((pb : Int) = (Bl : Int) - (nn : Int) + 1) = true := decide_eq_true (by omega)
        clear e1 e2
        go_wp2_with fail
        with_reducible refine HOV.out.mono ?_
        rintro e w11 ⟨rfl, k11, rfl⟩
        go_wp2_with fail
        with_reducible refine (HOS.out k11).mono ?_
        rintro e w12 ⟨rfl, k12, rfl⟩
        have HF12 : Hid (Below w.heap.size w ((w10.drewN k11).drewN k12)) := hid (below_drewN (below_drewN HFB.out))
        generalize (w10.drewN k11).drewN k12 = w12 at *
        go_wp2
        go_ret
        exact ⟨ret_bool (by simp), HF12.out⟩
      · have hd1 : decide ((ot : Int) < (nn : Int)) = true := decide_eq_true (by omega)
        go_wp2_with fail
        with_reducible refine HOV.out.mono ?_
        rintro e w11 ⟨rfl, k11, rfl⟩
        have HF11 : Hid (Below w.heap.size w (w10.drewN k11)) := hid (below_drewN HFB.out)
        generalize w10.drewN k11 = w11 at *
        go_wp2
        go_ret
        exact ⟨rfl, HF11.out⟩

end Go.Proofs.YtabemneoobbnaaaGreatDoor
