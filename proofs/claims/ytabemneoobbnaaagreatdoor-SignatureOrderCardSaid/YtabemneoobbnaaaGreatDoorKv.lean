/- The walk of SignatureOrder. -/
import Derived.Test.YtabemneoobbnaaaGreatDoorKu
namespace Go.Proofs.YtabemneoobbnaaaGreatDoor
open Go.RowKit Go.Shelf

/-- how many columns hold the text before the one at a place of the order -/
def lastF (F : ByteArray → Nat) (O : List ByteArray) (q : Nat) : Nat := if q = 0 then 0 else F (O.getD (q - 1) ⟨#[]⟩)
theorem rdU_lat {w w1 : World} {sa : Option Addr} {sn sc : Nat} (h : RdU w w.heap.size sa sn sc) (hb1 : Below w.heap.size w w1) : RdU w1 w1.heap.size sa sn sc := by
  obtain ⟨h1, h2, h3⟩ := h
  refine ⟨h1, h2, fun hp => ?_⟩
  obtain ⟨b, o, e, hlt, hc⟩ := h3 hp
  exact ⟨b, o, e, by have := hb1.size; omega, fun i hi => by
    obtain ⟨x, hx, hcx⟩ := hc i hi
    exact ⟨x, hx, (hb1.cell (p := ⟨b, o + i, none⟩) hlt).trans hcx⟩⟩

theorem has_later {s : ByteArray} {X : List ByteArray} {va : Option Addr} {vc base : Nat} {wv : World} (hhas : hasL X s = true) (h : wv.ownsRow base 9 1 (.slice va X.length vc) X.length (X.map Value.string)) (W' : World) (hW : Below wv.heap.size wv W') :
    Calls Tryz.prog 12 #[.slice va X.length vc, .string s] W' (Quiet W' (.bool true)) := by
  have h1 := ref_Has (.slice va X.length vc) X s wv.heap.size W' (InS.rds ((InK.keep (inS_of_own h) fun p hp => hW.cell (p := p) (h.lt _ hp).2).more (S' := (· < wv.heap.size)) fun b hb => (h.lt b hb).2) fun b h => h)
  rwa [hhas] at h1
set_option maxHeartbeats 1000000 in
theorem lib_IndexNil (a : Option Addr) (c : Nat) (s : ByteArray) (w : World) :
    Calls Tryz.prog 55 #[.slice a 0 c, .string s] w fun e w' => e = .returned (.int .i64 (-1)) ∧ w' = w := by
  go_enter Tryz.func55, Tryz.ntmps55
  go_wp2_with fail
  go_loopg [8] 0 (fun N v wr => v = .int .i64 0 ∧ wr = w)
  case atStart => exact ⟨rfl, rfl⟩
  case round =>
    obtain ⟨rfl, rfl⟩ := hrel
    go_wp2
    go_ret
    exact ⟨rfl, rfl⟩
theorem sig_Rank0 (a : Option Addr) (c : Nat) (s : ByteArray) (w : World) :
    Calls Tryz.prog 29 #[.slice a 0 c, .string s] w fun e w' => e = .returned (.int .i64 (-1)) ∧ w' = w := by
  go_enter Tryz.func29, Tryz.ntmps29
  go_wp2_with fail
  with_reducible refine (lib_IndexNil _ _ _ _).mono ?_
  rintro e w1 ⟨rfl, rfl⟩
  go_wp2
  go_ret
  exact ⟨rfl, rfl⟩
theorem rank_away {v : Value} {O : List ByteArray} {s : ByteArray} {B : Nat} {w : World} (hv : InS w (· < B) v O) (hs : s ∉ O) :
    Calls Tryz.prog 29 #[v, .string s] w fun e w' => e = .returned (.int .i64 (-1)) ∧ w' = w := by
  by_cases h0 : 0 < O.length
  · have h := sig_Rank v O s B w hv h0
    rwa [idx_miss hs] at h
  · obtain ⟨a, c, rfl, -⟩ := hv
    rw [show O.length = 0 by omega]
    exact sig_Rank0 a c s w

set_option maxRecDepth 100000 in
set_option maxHeartbeats 4000000 in
theorem law17_order (sa : Option Addr) (sn sc : Nat) (w : World) (hs : RdU w w.heap.size sa sn sc) (hT : Tabs w) :
    Calls Tryz.prog 5 #[.slice sa sn sc] w (Ret w (.bool true)) := by
  have HS := hid hs
  have HT := hid hT
  clear hs hT
  go_enter Tryz.func5, Tryz.ntmps5
  generalize hLA : Code.loop _ = LA
  generalize hLB : Code.loop _ = LB
  go_wp2_with fail
  with_reducible refine (law17_sane _ HT.out).mono ?_
  rintro e w1 ⟨rfl, hb1⟩
  have HB1 := hid hb1
  have HU1 := hid (rdU_lat HS.out hb1)
  have hz1 := hb1.size
  clear hb1
  go_wp2_with fail
  with_reducible refine (mill_New sa sn sc _ HU1.out).mono ?_
  rintro e w2 ⟨rfl, hd2, hb2⟩
  have HD2 := hid hd2
  have HB2 := hid (HB1.out.trans (hb2.mono HB1.out.size))
  clear hd2 hb2 HU1
  generalize hgg : w1.heap.size = g at *
  clear hgg
  have hLL := hid (dice_List g 3 4 6 _ HD2.out (by omega) (by omega) (by omega))
  rw [show (((3 : Nat)) : Int) = 3 from rfl, show (((4 : Nat)) : Int) = 4 from rfl, show (((6 : Nat)) : Int) = 6 from rfl] at hLL
  go_wp2_with fail
  with_reducible refine hLL.out.mono ?_
  clear hLL
  rintro e w3 ⟨ts, ta, tc, rfl, hrd, hok, hd3, hr3⟩
  have hlv := listV_of hok (by omega) (by omega) (by omega)
  have hts3 : ts.length ≤ 3 := hok.1
  have HLV := hid hlv
  have HB3 := hid (HB2.out.trans (hr3.below (B' := w.heap.size) (by omega) (HB2.out.size)))
  have HRD := hid (hrd.more (S' := (· < w3.heap.size)) fun b hb => And.right hb)
  have HOR := hid (sig_Order _ ts w3.heap.size w3 hlv HRD.out (Nat.le_refl _) (HT.out.below HB3.out))
  clear hrd hok hd3 hr3 hlv
  generalize hL : ts.length = L at *
  have HL := hid hL
  clear hL
  go_wp2_with fail
  with_reducible refine HOR.out.mono ?_
  rintro e w4 ⟨oa, oc, O, rfl, h1, h2, h3, h4, hb4⟩
  have HB4 := hid (HB3.out.trans (hb4.mono HB3.out.size))
  have HRT4 := hid (HRD.out.keep (w' := w4) fun p hp => hb4.cell (p := p) hp)
  have hz4 := hb4.size
  have HCV := hid (colsV_of HLV.out)
  have hrs := cvsL_lenR ts
  have hal := all_len HCV.out.len
  have hmany := HCV.out.many
  have HOL := hid (ord_len h1 h2)
  have hrle := refs_le (ts := ts) fun t ht => (HLV.out.2.1 t ht).2.2.2.1
  have HSO : Hid (∀ s ∈ O, s.size ≤ maxLen) := hid (fun s hs => by
    obtain ⟨c, hc, h⟩ := List.mem_flatMap.1 ((h2 s).1 hs)
    exact HCV.out.str c hc s h)
  have HNT : Hid (⟨#[110, 111, 116, 32, 116, 104, 101, 114, 101]⟩ ∉ O) := hid (fun hm => by
    obtain ⟨c, hc, h⟩ := List.mem_flatMap.1 ((h2 _).1 hm)
    have := cvsL_small HLV.out c hc _ h
    revert this
    decide)
  have HN1 : Hid (∀ i, i < O.length → 1 ≤ cntN (allOf (cvsL ts)) (O.getD i ⟨#[]⟩)) := hid (fun i hi => cnt_pos ((h2 _).1 (getD_mem hi ⟨#[]⟩)))
  have HNL : Hid (∀ s, cntN (allOf (cvsL ts)) s ≤ 268435456) := hid (fun s => Nat.le_trans (cntN_le _ s) (by omega))
  have HST : Hid (∀ i, 0 < i → i < O.length → cntN (allOf (cvsL ts)) (O.getD (i - 1) ⟨#[]⟩) ≤ cntN (allOf (cvsL ts)) (O.getD i ⟨#[]⟩) ∧ (cntN (allOf (cvsL ts)) (O.getD i ⟨#[]⟩) = cntN (allOf (cvsL ts)) (O.getD (i - 1) ⟨#[]⟩) → sl (O.getD (i - 1) ⟨#[]⟩) (O.getD i ⟨#[]⟩) = true)) := hid (fun i h0 hi => ord_step h1 h3 h0 hi)
  have HON := hid h1
  have HMEM := hid h2
  have HIO : Hid (∀ W, Below w4.heap.size w4 W → InS W (· < w4.heap.size) (.slice oa O.length oc) O) := hid (fun W hW => (InK.keep h4 fun p hp => hW.cell (p := p) hp.2).more fun b hb => hb.2)
  have HRK : Hid (∀ i, i < O.length → ∀ W, Below w4.heap.size w4 W → Calls Tryz.prog 29 #[.slice oa O.length oc, .string (O.getD i ⟨#[]⟩)] W fun e w' => e = .returned (.int .i64 (i : Int)) ∧ w' = W) := hid (fun i hi W hW => by
    have h := sig_Rank (.slice oa O.length oc) O (O.getD i ⟨#[]⟩) w4.heap.size W (HIO.out W hW) (by omega)
    rw [idx_own h1 hi] at h
    exact h)
  have HOC : Hid (∀ q, q < O.length → ∃ b o, oa = some ⟨b, o, none⟩ ∧ b < w4.heap.size ∧ ∀ i, i < O.length → w4.cell? ⟨b, o + i, none⟩ = some (.string (O.getD i ⟨#[]⟩))) := hid (fun q hq => by
    obtain ⟨a', c', e, -, -, hr⟩ := HIO.out w4 (Below.refl _ _)
    obtain ⟨rfl, -, rfl⟩ := Value.slice.inj e
    obtain ⟨b, o, rfl, hb, hc⟩ := hr (by omega)
    exact ⟨b, o, rfl, hb, fun i hi => by
      have h := hc i hi 0 (by omega)
      simp only [Nat.mul_one, Nat.add_zero] at h
      exact h⟩)
  have HRF := hid (fun W (hW : Below w4.heap.size w4 W) => ref_Refs (.slice ta L tc) ts w4.heap.size W HLV.out (((HRT4.out.more (S' := (· < w4.heap.size)) fun b hb => (show b < w4.heap.size by have h : b < w3.heap.size := hb; omega)).keep fun p (hp : p.block < w4.heap.size) => hW.cell (p := p) hp)) hW.size)
  have HGT := hid (fun q (hq : q < (refsL ts).length) W (hW : Below w4.heap.size w4 W) => ref_Get_at (.slice ta L tc) ts w4.heap.size q W HLV.out hq ((HRT4.out.more (S' := (· < w4.heap.size)) fun b hb => (show b < w4.heap.size by have h : b < w3.heap.size := hb; omega)).keep fun p (hp : p.block < w4.heap.size) => hW.cell (p := p) hp) hW.size)
  have HCL := hid (fun q (hq : q < (refsL ts).length) => (show ((colsL ts).getD q Co.z).cells.length ≤ 1048576 from by
    obtain ⟨i, k, hi, hk, -, h4⟩ := refs_at ts q hq
    rw [h4]
    obtain ⟨m, hm, hc⟩ := (HLV.out.2.1 _ (getD_mem hi Ta.z)).2.2.2.2
    have := (hc _ (getD_mem hk Co.z)).2.1
    omega))
  have HVA := hid (fun q (hq : q < (refsL ts).length) => (show valuesL ((colsL ts).getD q Co.z).cells = ((cvsL ts).getD q Cv.z).2 from by simp [cvsL, cvsK, cvOf, List.getD, hq]))
  have HCN := hid (fun q (hq : q < (refsL ts).length) s => (show cntN (allOf ((cvsL ts).take (q + 1))) s = cntN (allOf ((cvsL ts).take q)) s + if hasL (valuesL ((colsL ts).getD q Co.z).cells) s = true then 1 else 0 from by
    have hq2 : q < (cvsL ts).length := by omega
    rw [HVA.out q hq]
    exact cnt_step hq2 (HCV.out.sets _ (getD_mem hq2 Cv.z)) s))
  have HAF : Hid (∀ s, cntN (allOf ((cvsL ts).take (refsL ts).length)) s = cntN (allOf (cvsL ts)) s) := hid (fun s => by rw [← hrs, List.take_length])
  have HAT : Hid (∀ q s, q ≤ (refsL ts).length → cntN (allOf ((cvsL ts).take q)) s ≤ 268435456) := hid (fun q s hq => Nat.le_trans (cntN_le _ s) (Nat.le_trans (all_len (fun c hc => HCV.out.len c (List.mem_of_mem_take hc))) (by rw [List.length_take]; omega)))
  have HNOT : Hid (∀ W, Below w4.heap.size w4 W → Calls Tryz.prog 29 #[.slice oa O.length oc, .string ⟨#[110, 111, 116, 32, 116, 104, 101, 114, 101]⟩] W fun e w' => e = .returned (.int .i64 (-1)) ∧ w' = W) := hid (fun W hW => rank_away (HIO.out W hW) HNT.out)
  have HXO : Hid (∀ q, q < (refsL ts).length → (∀ x ∈ valuesL ((colsL ts).getD q Co.z).cells, x ∈ O) ∧ (valuesL ((colsL ts).getD q Co.z).cells).Nodup ∧ (∀ x ∈ valuesL ((colsL ts).getD q Co.z).cells, x.size ≤ maxLen)) := hid (fun q hq => by
    have hq2 : q < (cvsL ts).length := by omega
    rw [HVA.out q hq]
    have hm := getD_mem hq2 Cv.z
    exact ⟨fun x hx => (HMEM.out x).2 (List.mem_flatMap.2 ⟨_, hm, hx⟩), asc_nodup (HCV.out.sets _ hm), HCV.out.str _ hm⟩)
  have HAL : Hid (∀ q, q < (refsL ts).length → (allOf ((cvsL ts).take (q + 1))).length = (allOf ((cvsL ts).take q)).length + (valuesL ((colsL ts).getD q Co.z).cells).length) := hid (fun q hq => by
    rw [HVA.out q hq, all_take (by omega : q < (cvsL ts).length), List.length_append])
  have HALF : Hid (O.length ≤ (allOf ((cvsL ts).take (refsL ts).length)).length) := hid (by rw [← hrs, List.take_length]; exact HOL.out)
  have HALB : Hid (∀ q, q ≤ (refsL ts).length → (allOf ((cvsL ts).take q)).length ≤ 268435456) := hid (fun q hq => Nat.le_trans (all_len (fun c hc => HCV.out.len c (List.mem_of_mem_take hc))) (by rw [List.length_take]; omega))
  have HOM : Hid (O.length ≤ 1048576) := hid (by have := HOL.out; have e := HL.out; omega)
  clear h1 h2 h3 h4 hb4 HOR
  generalize hon : O.length = on at *
  have HONL := hid hon
  have honz : on ≤ 268435456 := by have := HOL.out; omega
  have honm := HOM.out
  clear hon hal HOL hrle HOM
  generalize hnn : (refsL ts).length = n at *
  have HNN := hid hnn
  clear hnn
  have hn64 : n ≤ 65536 := by omega
  clear hrs hmany
  go_wp2_with fail
  subst hLA
  go_loopg [7, 38] on (fun N v i wr => ∃ q : Nat, q + N = on ∧ i = .int .i64 (q : Int) ∧ v = .int .i64 ((lastF (cntN (allOf (cvsL ts))) O q : Nat) : Int) ∧ Hid (Below w4.heap.size w4 wr))
  case atStart => exact ⟨0, by omega, rfl, rfl, hid (Below.refl _ _)⟩
  case round =>
    obtain ⟨q, hq, rfl, rfl, HB⟩ := hrel
    by_cases hp : 0 < gk
    · have hqn : q < on := by omega
      obtain ⟨b, o, rfl, hb, hcell⟩ := HOC.out q hqn
      have HCELL := hid hcell
      have k0 : wr.cell? ⟨b, o + q, none⟩ = some (.string (O.getD q ⟨#[]⟩)) := (HB.out.cell (p := ⟨b, o + q, none⟩) hb).trans (hcell q hqn)
      have HX := hid (show O.getD q ⟨#[]⟩ = O.getD q ⟨#[]⟩ from rfl)
      have HRQ := hid (HRF.out wr HB.out)
      clear hcell
      generalize hs : O.getD q ⟨#[]⟩ = s at k0 HX ⊢
      have HSQ := hid hs
      clear hs HX
      generalize hLC : Code.loop _ = LC
      go_wp2_with fail
      with_reducible refine HRQ.out.mono ?_
      rintro e w5 ⟨ra, rc, rfl, hrr, hb5⟩
      have HB5 := hid (HB.out.trans (hb5.mono HB.out.size))
      have HRR := hid hrr
      have hz5 := HB5.out.size
      rw [HNN.out]
      clear hb5 hrr k0
      go_wp2_with fail
      subst hLC
      obtain ⟨wo, rfl⟩ : ∃ wo, wo = wr := ⟨wr, rfl⟩
      obtain ⟨ko, rfl⟩ : ∃ ko, ko = gk := ⟨gk, rfl⟩
      go_loopg [11, 46] n (fun N v i W => ∃ p : Nat, p + N = n ∧ i = .int .i64 (p : Int) ∧ v = .int .i64 ((cntN (allOf ((cvsL ts).take p)) s : Nat) : Int) ∧ Hid (Below w5.heap.size w5 W))
      case atStart => exact ⟨0, by omega, rfl, rfl, hid (Below.refl _ _)⟩
      case round =>
        obtain ⟨p, hpn, rfl, rfl, HB6⟩ := hrel
        by_cases hpp : 0 < gk
        · obtain ⟨ra', rc', er, -, -, hrd⟩ := HRR.out
          rw [HNN.out] at er hrd
          obtain ⟨rfl, -, rfl⟩ := Value.slice.inj er
          obtain ⟨b2, o2, rfl, hb2, hcell⟩ := hrd (by omega)
          have hbw : b2 < w5.heap.size := hb2.2
          have r0 : wr.cell? ⟨b2, o2 + p * 2, none⟩ = some (.int .i64 ((refsL ts).getD p (0, 0)).1) := (HB6.out.cell (p := ⟨b2, o2 + p * 2, none⟩) hbw).trans (hcell p (by omega) 0 (by omega))
          have r1 : wr.cell? ⟨b2, o2 + p * 2 + 1, none⟩ = some (.int .i64 (((refsL ts).getD p (0, 0)).2 : Int)) := (HB6.out.cell (p := ⟨b2, o2 + p * 2 + 1, none⟩) hbw).trans (hcell p (by omega) 1 (by omega))
          have HGQ := hid (HGT.out p (by omega))
          have hcc := HCL.out p (by omega)
          have HCQ := hid (HCN.out p (by omega) s)
          have hcb := HAT.out p s (by omega)
          have hz6 := HB6.out.size
          clear hcell hrd er
          generalize (colsL ts).getD p Co.z = x at *
          generalize (refsL ts).getD p (0, 0) = r at *
          obtain ⟨ri, rk⟩ := r
          obtain ⟨xn, xcl⟩ := x
          simp only at r0 r1 hcc
          generalize hcp : cntN (allOf ((cvsL ts).take p)) s = cp at *
          clear hcp
          have HB7 : Hid (Below w4.heap.size w4 (wr.alloc (.cells #[.int .i64 ri, .int .i64 (rk : Int)] 47))) := hid ((HB5.out.trans (HB6.out.mono hz5)).alloc (by omega) _)
          have HB57 : Hid (Below w5.heap.size w5 (wr.alloc (.cells #[.int .i64 ri, .int .i64 (rk : Int)] 47))) := hid (HB6.out.alloc hz6 _)
          go_wp2_with fail
          with_reducible refine (HGQ.out _ HB7.out).mono ?_
          clear r0 r1
          generalize wr.alloc (.cells #[.int .i64 ri, .int .i64 (rk : Int)] 47) = W7 at *
          rintro e v8 ⟨u, rfl, hru, hb8⟩
          have HB8 := hid (HB7.out.trans (hb8.mono HB7.out.size))
          have HB58 := hid (HB57.out.trans (hb8.mono HB57.out.size))
          have HVAL := hid (fun W (hW : Below W7.heap.size W7 W) => ref_Values xn xcl u w4.heap.size W (hru.keep fun p (hp : p.block < w4.heap.size) => hW.cell (p := p) (Nat.lt_of_lt_of_le hp HB7.out.size)) (Nat.le_trans HB7.out.size hW.size) hcc)
          obtain ⟨ua, uc, rfl, -⟩ := hru
          simp only
          generalize xcl.length = un at *
          have HCB := hid (BoxN.new v8 #[.string xn, .slice ua un uc] 52)
          have HB59 := hid (HB58.out.alloc HB58.out.size (.cells #[.string xn, .slice ua un uc] 52))
          have HB79 : Hid (Below W7.heap.size W7 (v8.alloc (.cells #[.string xn, .slice ua un uc] 52))) := hid (hb8.alloc hb8.size _)
          have c0 := HCB.out.cell 0 rfl
          have c1 := HCB.out.cell 1 rfl
          clear hb8
          go_wp2_with fail
          with_reducible refine (HVAL.out _ HB79.out).mono ?_
          clear c0 c1
          generalize v8.alloc (.cells #[.string xn, .slice ua un uc] 52) = W9 at *
          rintro e v10 ⟨xa, xc, rfl, hown10, hb10⟩
          have HB510 := hid (HB59.out.trans (hb10.mono HB59.out.size))
          have HHS := hid (ref_Has _ (valuesL xcl) s v10.heap.size v10 (rdS_of_own hown10))
          clear hown10 hb10 HVAL HB79
          generalize valuesL xcl = X at *
          generalize X.length = xl at *
          cases hhas : hasL X s with
          | true =>
            rw [hhas] at HHS
            have hcq := HCQ.out
            rw [if_pos hhas] at hcq
            have HCE := hid hcq
            clear hcq
            go_wp2_with fail
            with_reducible refine HHS.out.mono ?_
            rintro e v11 ⟨rfl, k11, rfl⟩
            go_wp2_with fail
            go_roundg (gk - 1)
            case rel => exact ⟨p + 1, by omega, by go_num, by rw [HCE.out]; go_num, hid (below_drewN HB510.out)⟩
            case measure => omega
          | false =>
            rw [hhas] at HHS
            have hcq := HCQ.out
            rw [if_neg (by rw [hhas]; exact Bool.false_ne_true)] at hcq
            have HCE := hid hcq
            clear hcq
            go_wp2_with fail
            with_reducible refine HHS.out.mono ?_
            rintro e v11 ⟨rfl, k11, rfl⟩
            go_wp2_with fail
            go_roundg (gk - 1)
            case rel => exact ⟨p + 1, by omega, by go_num, by rw [HCE.out]; rfl, hid (below_drewN HB510.out)⟩
            case measure => omega
        · obtain rfl : p = n := by omega
          have HBR := hid (HB5.out.trans (HB6.out.mono hz5))
          have HRQ := hid (HRK.out q hqn wr HBR.out)
          rw [HAF.out]
          have h1 := HN1.out q hqn
          have h2 := HNL.out s
          have h3 := HST.out q
          rw [HSQ.out] at h1 h3 HRQ
          have HLN : Hid (lastF (cntN (allOf (cvsL ts))) O (q + 1) = cntN (allOf (cvsL ts)) s) := hid (by
            unfold lastF
            rw [if_neg (by omega), Nat.add_sub_cancel, HSQ.out])
          have HQ : Hid (∀ (h0 : 0 < q), wr.cell? ⟨b, o + (q - 1), none⟩ = some (.string (O.getD (q - 1) ⟨#[]⟩))) := hid (fun h0 => (HBR.out.cell (p := ⟨b, o + (q - 1), none⟩) hb).trans (HCELL.out (q - 1) (by omega)))
          by_cases hq0 : q = 0
          · have hl0 : lastF (cntN (allOf (cvsL ts))) O q = 0 := if_pos hq0
            rw [hl0]
            clear h3 HQ
            generalize cntN (allOf (cvsL ts)) s = f at *
            have hd1 : decide ((f : Int) < ((0 : Nat) : Int)) = false := decide_eq_false (by omega)
            have hd2 : decide ((f : Int) < 1) = false := decide_eq_false (by omega)
            have hd3 : decide ((0 : Int) < (q : Int)) = false := decide_eq_false (by omega)
            have hd5 : decide ((f : Int) < 0) = false := decide_eq_false (by omega)
            have hd4 : ((q : Int) != (q : Int)) = false := by simp
            go_wp2_with fail
            with_reducible refine HRQ.out.mono ?_
            rintro e w7 ⟨rfl, rfl⟩
            go_wp2_with fail
            go_roundg (ko - 1)
            case rel => exact ⟨q + 1, by omega, by go_num, by rw [HLN.out], HBR⟩
            case measure => omega
          · have hl0 : lastF (cntN (allOf (cvsL ts))) O q = cntN (allOf (cvsL ts)) (O.getD (q - 1) ⟨#[]⟩) := if_neg hq0
            rw [hl0]
            obtain ⟨h4, h5⟩ := h3 (by omega) hqn
            have HSL := hid h5
            have k1 := HQ.out (by omega)
            have hq1 : (q : Int) - 1 = ((q - 1 : Nat) : Int) := by omega
            have hq2 : q - 1 < on := by omega
            clear HQ h5
            generalize O.getD (q - 1) ⟨#[]⟩ = y at *
            generalize cntN (allOf (cvsL ts)) s = f at *
            generalize cntN (allOf (cvsL ts)) y = f1 at *
            generalize q - 1 = q1 at *
            have hd1 : decide ((f : Int) < (f1 : Int)) = false := decide_eq_false (by omega)
            have hd2 : decide ((f : Int) < 1) = false := decide_eq_false (by omega)
            have hd3 : decide ((0 : Int) < (q : Int)) = true := decide_eq_true (by omega)
            have hd4 : ((q : Int) != (q : Int)) = false := by simp
            by_cases hf : f = f1
            · have hsl : Op.bytesLess y.toList s.toList = true := HSL.out hf
              have hd5 : ((f : Int) == (f1 : Int)) = true := by simp; omega
              have hd6 : decide ((f : Int) = (f1 : Int)) = true := decide_eq_true (by omega)
              clear hf
              go_wp2_with fail
              with_reducible refine HRQ.out.mono ?_
              rintro e w7 ⟨rfl, rfl⟩
              go_wp2_with fail
              go_roundg (ko - 1)
              case rel => exact ⟨q + 1, by omega, by go_num, by rw [HLN.out], HBR⟩
              case measure => omega
            · have hd5 : ((f : Int) == (f1 : Int)) = false := by simp; omega
              have hd6 : decide ((f : Int) = (f1 : Int)) = false := decide_eq_false (by omega)
              go_wp2_with fail
              with_reducible refine HRQ.out.mono ?_
              rintro e w7 ⟨rfl, rfl⟩
              go_wp2_with fail
              go_roundg (ko - 1)
              case rel => exact ⟨q + 1, by omega, by go_num, by rw [HLN.out], HBR⟩
              case measure => omega
    · obtain rfl : q = on := by omega
      have HRQ := hid (HRF.out wr HB.out)
      clear HRK HST HN1 HNL HAF HAT HCN
      go_wp2_with fail
      with_reducible refine HRQ.out.mono ?_
      rintro e w5 ⟨ra, rc, rfl, hrr, hb5⟩
      have HB5 := hid (HB.out.trans (hb5.mono HB.out.size))
      have HRR := hid hrr
      have hz5 := HB5.out.size
      rw [HNN.out]
      clear hb5 hrr
      go_wp2_with fail
      subst hLB
      go_loopg [8, 100] n (fun N v i W => ∃ p : Nat, p + N = n ∧ i = .int .i64 (p : Int) ∧ v = .int .i64 (((allOf ((cvsL ts).take p)).length : Nat) : Int) ∧ Hid (Below w5.heap.size w5 W))
      case atStart => exact ⟨0, by omega, rfl, rfl, hid (Below.refl _ _)⟩
      case round =>
        obtain ⟨p, hpn, rfl, rfl, HB6⟩ := hrel
        by_cases hpp : 0 < gk
        · obtain ⟨ra', rc', er, -, -, hrd⟩ := HRR.out
          rw [HNN.out] at er hrd
          obtain ⟨rfl, -, rfl⟩ := Value.slice.inj er
          obtain ⟨b2, o2, rfl, hb2, hcell⟩ := hrd (by omega)
          have hbw : b2 < w5.heap.size := hb2.2
          have r0 : wr.cell? ⟨b2, o2 + p * 2, none⟩ = some (.int .i64 ((refsL ts).getD p (0, 0)).1) := (HB6.out.cell (p := ⟨b2, o2 + p * 2, none⟩) hbw).trans (hcell p (by omega) 0 (by omega))
          have r1 : wr.cell? ⟨b2, o2 + p * 2 + 1, none⟩ = some (.int .i64 (((refsL ts).getD p (0, 0)).2 : Int)) := (HB6.out.cell (p := ⟨b2, o2 + p * 2 + 1, none⟩) hbw).trans (hcell p (by omega) 1 (by omega))
          have HGQ := hid (HGT.out p (by omega))
          have hcc := HCL.out p (by omega)
          have HALQ := hid (HAL.out p (by omega))
          have hcb := HALB.out p (by omega)
          have HXQ := hid (HXO.out p (by omega))
          have hz6 := HB6.out.size
          clear hcell hrd er
          generalize (colsL ts).getD p Co.z = x at *
          generalize (refsL ts).getD p (0, 0) = r at *
          obtain ⟨ri, rk⟩ := r
          obtain ⟨xn, xcl⟩ := x
          simp only at r0 r1 hcc
          have hxl := values_len xcl
          generalize hcp : (allOf ((cvsL ts).take p)).length = cp at *
          clear hcp
          have HB7 : Hid (Below w4.heap.size w4 (wr.alloc (.cells #[.int .i64 ri, .int .i64 (rk : Int)] 47))) := hid ((HB5.out.trans (HB6.out.mono hz5)).alloc (by omega) _)
          have HB57 : Hid (Below w5.heap.size w5 (wr.alloc (.cells #[.int .i64 ri, .int .i64 (rk : Int)] 47))) := hid (HB6.out.alloc hz6 _)
          go_wp2_with fail
          with_reducible refine (HGQ.out _ HB7.out).mono ?_
          clear r0 r1
          generalize wr.alloc (.cells #[.int .i64 ri, .int .i64 (rk : Int)] 47) = W7 at *
          rintro e v8 ⟨u, rfl, hru, hb8⟩
          have HB8 := hid (HB7.out.trans (hb8.mono HB7.out.size))
          have HB58 := hid (HB57.out.trans (hb8.mono HB57.out.size))
          have HVAL := hid (fun W (hW : Below W7.heap.size W7 W) => ref_Values xn xcl u w4.heap.size W (hru.keep fun p (hp : p.block < w4.heap.size) => hW.cell (p := p) (Nat.lt_of_lt_of_le hp HB7.out.size)) (Nat.le_trans HB7.out.size hW.size) hcc)
          obtain ⟨ua, uc, rfl, -⟩ := hru
          simp only
          try simp only at HXQ
          try simp only at HALQ
          generalize valuesL xcl = X at *
          have hxm : X.length ≤ 1048576 := by omega
          generalize xcl.length = un at *
          clear hxl
          have HCB := hid (BoxN.new v8 #[.string xn, .slice ua un uc] 52)
          have HB49 := hid (HB8.out.alloc HB8.out.size (.cells #[.string xn, .slice ua un uc] 52))
          have HB59 := hid (HB58.out.alloc HB58.out.size (.cells #[.string xn, .slice ua un uc] 52))
          have HB79 : Hid (Below W7.heap.size W7 (v8.alloc (.cells #[.string xn, .slice ua un uc] 52))) := hid (hb8.alloc hb8.size _)
          have c0 := HCB.out.cell 0 rfl
          have c1 := HCB.out.cell 1 rfl
          clear hb8
          go_wp2_with fail
          with_reducible refine (HVAL.out _ HB79.out).mono ?_
          clear c0 c1
          generalize v8.alloc (.cells #[.string xn, .slice ua un uc] 52) = W9 at *
          generalize v8.heap.size = cb at *
          rintro e v10 ⟨xa, xc, rfl, hown10, hb10⟩
          have HB410 := hid (HB49.out.trans (hb10.mono HB49.out.size))
          have HB510 := hid (HB59.out.trans (hb10.mono HB59.out.size))
          have HB710 := hid (HB79.out.trans (hb10.mono HB79.out.size))
          have HC10 := hid (HCB.out.below hb10 HCB.out.lt)
          have HRA := hid (sig_Ranks (.slice oa q oc) (.slice xa X.length xc) O X v10.heap.size v10 (by have h := HIO.out v10 HB410.out; exact h.more fun b hb => Nat.lt_of_lt_of_le hb HB410.out.size) ((inS_of_own hown10).more fun b hb => (hown10.lt b hb).2) (Nat.le_refl _) HSO.out HXQ.out.2.2 (by rw [HONL.out]; exact honm) hxm)
          have HRL := hid (rank_full HXQ.out.1 HXQ.out.2.1)
          have HRT := hid (fun i (hi : i < (rankL O X).length) => rank_at HXQ.out.1 hi)
          have HRU := hid (fun i (h0 : 0 < i) (hi : i < (rankL O X).length) => rank_up (O := O) (X := X) h0 hi)
          rw [HRL.out, HONL.out] at HRT
          rw [HRL.out] at HRU
          clear hown10 hb10
          go_wp2_with fail
          with_reducible refine HRA.out.mono ?_
          rintro e v11 ⟨ka, kc, rfl, hk11, hb11⟩
          rw [HRL.out] at hk11 ⊢
          generalize rankL O X = R at *
          have HB411 := hid (HB410.out.trans (hb11.mono HB410.out.size))
          have HB511 := hid (HB510.out.trans (hb11.mono HB510.out.size))
          have HB711 := hid (HB710.out.trans (hb11.mono HB710.out.size))
          have HC11 := hid (HC10.out.below hb11 HC10.out.lt)
          have HRC : Hid (∀ j, j < X.length → ∃ b4 o4, ka = some ⟨b4, o4, none⟩ ∧ b4 < v11.heap.size ∧ ∀ i, i < X.length → v11.cell? ⟨b4, o4 + i, none⟩ = some (.int .i64 ((R.getD i 0 : Nat) : Int))) := hid (fun j hj => by
            obtain ⟨a', c', e, -, -, hr⟩ := hk11
            rw [HRL.out] at e hr
            obtain ⟨rfl, -, rfl⟩ := Value.slice.inj e
            obtain ⟨b4, o4, rfl, hb, hc⟩ := hr (by omega)
            exact ⟨b4, o4, rfl, hb.2, fun i hi => by
              have h := hc i hi 0 (by omega)
              simp only [Nat.mul_one, Nat.add_zero] at h
              exact h⟩)
          have c0 := HC11.out.cell 0 rfl
          have c1 := HC11.out.cell 1 rfl
          have hne : (((X.length : Nat) : Int) != ((X.length : Nat) : Int)) = false := by simp
          clear hk11 hb11 HRA
          go_wp2_with fail
          with_reducible refine (HVAL.out _ HB711.out).mono ?_
          clear c0 c1
          rintro e v12 ⟨ya, yc, rfl, -, hb12⟩
          have HB412 := hid (HB411.out.trans (hb12.mono HB411.out.size))
          have HB512 := hid (HB511.out.trans (hb12.mono HB511.out.size))
          have HB712 := hid (HB711.out.trans (hb12.mono HB711.out.size))
          have HC12 := hid (HC11.out.below hb12 HC11.out.lt)
          have HB1112 := hid hb12
          have hz12 := hb12.size
          have hz412 := HB412.out.size
          clear hb12
          go_wp2_with fail
          obtain ⟨wo, rfl⟩ : ∃ wo, wo = wr := ⟨wr, rfl⟩
          obtain ⟨ko, rfl⟩ : ∃ ko, ko = gk := ⟨gk, rfl⟩
          go_loopg [122] X.length (fun N i W => ∃ j : Nat, j + N = X.length ∧ i = .int .i64 (j : Int) ∧ Hid (Below v12.heap.size v12 W))
          case atStart => exact ⟨0, by omega, rfl, hid (Below.refl _ _)⟩
          case round =>
            obtain ⟨j, hj, rfl, HB13⟩ := hrel
            by_cases hpj : 0 < gk
            · obtain ⟨b4, o4, rfl, hb4, hk4⟩ := HRC.out j (by omega)
              obtain ⟨hkq, hhas⟩ := HRT.out j (by omega)
              obtain ⟨b, o, rfl, hb, hcell⟩ := HOC.out (R.getD j 0) hkq
              have hjx : j < X.length := by omega
              have hwz := HB13.out.size
              have k0 : wr.cell? ⟨b4, o4 + j, none⟩ = some (.int .i64 ((R.getD j 0 : Nat) : Int)) := (HB13.out.cell (p := ⟨b4, o4 + j, none⟩) (by show b4 < _; omega)).trans ((HB1112.out.cell (p := ⟨b4, o4 + j, none⟩) hb4).trans (hk4 j hjx))
              have HKJ : Hid (0 < j → wr.cell? ⟨b4, o4 + (j - 1), none⟩ = some (.int .i64 ((R.getD (j - 1) 0 : Nat) : Int)) ∧ R.getD (j - 1) 0 < R.getD j 0) := hid (fun h0 => ⟨(HB13.out.cell (p := ⟨b4, o4 + (j - 1), none⟩) (by show b4 < _; omega)).trans ((HB1112.out.cell (p := ⟨b4, o4 + (j - 1), none⟩) hb4).trans (hk4 (j - 1) (by omega))), HRU.out j h0 hjx⟩)
              have k1 : wr.cell? ⟨b, o + R.getD j 0, none⟩ = some (.string (O.getD (R.getD j 0) ⟨#[]⟩)) := (HB13.out.cell (p := ⟨b, o + R.getD j 0, none⟩) (by show b < _; omega)).trans ((HB412.out.cell (p := ⟨b, o + R.getD j 0, none⟩) hb).trans (hcell _ hkq))
              have HC13 := hid (HC12.out.below HB13.out HC12.out.lt)
              have c0 := HC13.out.cell 0 rfl
              have c1 := HC13.out.cell 1 rfl
              have hcw : cb < wr.heap.size := HC13.out.lt
              have hbw : b < wr.heap.size := by omega
              have hb4w : b4 < wr.heap.size := by omega
              have HB7W := hid (HB712.out.trans (HB13.out.mono (by have := HB712.out.size; omega)))
              have HQW := hid (Below.refl wr.heap.size wr)
              clear hk4 hcell
              generalize R.getD j 0 = k at *
              generalize O.getD k ⟨#[]⟩ = s at *
              have hd1 : decide ((k : Int) < 0) = false := decide_eq_false (by omega)
              have hd2 : decide ((q : Int) ≤ (k : Int)) = false := decide_eq_false (by omega)
              go_upto_region 35 with fail
              by_cases hj0 : 0 < j
              · obtain ⟨kj, hlt⟩ := HKJ.out hj0
                obtain ⟨j1, rfl⟩ : ∃ j1, j = j1 + 1 := ⟨j - 1, by omega⟩
                rw [Nat.add_sub_cancel] at kj hlt
                have hj1 : j1 < X.length := by omega
                have hwr : IntKind.i64.wrap ((j1 : Nat) : Int) = (j1 : Int) := IntWalk.i64_in _ (by omega)
                clear HKJ
                generalize R.getD j1 0 = k' at *
                have hd4 : decide ((k : Int) ≤ (k' : Int)) = false := decide_eq_false (by omega)
                have hn2 : decide (q ≤ k) = false := decide_eq_false (by omega)
                have hn4 : decide (k ≤ k') = false := decide_eq_false (by omega)
                have hi1 : (0 : Int) ≤ (j1 : Int) := by omega
                have hi2 : (j1 : Int) < (X.length : Int) := by omega
                have hi3 : (0 : Int) ≤ (k : Int) := by omega
                have hi4 : (k : Int) < (q : Int) := by omega
                have hn1 : ¬ ((k : Int) < 0) := by omega
                go_region_held3 (fun w' => w'.cell? ⟨cb, 0, none⟩ = some (.string xn) ∧ w'.cell? ⟨cb, 1, none⟩ = some (.slice ua un uc) ∧ w'.cell? ⟨b, o + k, none⟩ = some (.string s) ∧ w'.cell? ⟨b4, o4 + j1, none⟩ = some (.int .i64 (k' : Int)))
                  (first | exact ⟨u0, u1, u2, u3⟩ | exact ⟨s0, s1, s2, s3⟩ | go_keep)
                  (first
                    | (go_at_call 21; go_must (((with_reducible refine (HVAL.out _ (by have h1 := HB7W.out; repeat' (first | (with_reducible exact Below.refl _ _) | (with_reducible assumption) | (with_reducible refine below_drewN ?_) | (with_reducible refine Below.alloc ?_ ?_ _) | (with_reducible refine Below.drew ?_) | (with_reducible refine Below.setCell ?_ ?_ _) | (with_reducible refine Below.trans ?_ (Below.mono (by with_reducible assumption) ?_)) | go_size))).mono ?_); rintro e wv ⟨va, vc, rfl, hownv, hbv⟩; have HBV : Hid (Below wr.heap.size wr wv) := hid (by have h1 := HQW.out; repeat' (first | (with_reducible exact Below.refl _ _) | (with_reducible assumption) | (with_reducible refine below_drewN ?_) | (with_reducible refine Below.alloc ?_ ?_ _) | (with_reducible refine Below.drew ?_) | (with_reducible refine Below.setCell ?_ ?_ _) | (with_reducible refine Below.trans ?_ (Below.mono (by with_reducible assumption) ?_)) | go_size)); have s0 := (HBV.out.cell (p := ⟨cb, 0, none⟩) hcw).trans c0; have s1 := (HBV.out.cell (p := ⟨cb, 1, none⟩) hcw).trans c1; have s2 := (HBV.out.cell (p := ⟨b, o + k, none⟩) hbw).trans k1; have s3 := (HBV.out.cell (p := ⟨b4, o4 + j1, none⟩) hb4w).trans kj; have HHV := hid (has_later hhas hownv); clear hownv hbv)))
                    | (go_at_call 12; go_must (((with_reducible refine (HHV.out _ (by have h1 := Below.refl wv.heap.size wv; repeat' (first | (with_reducible exact Below.refl _ _) | (with_reducible assumption) | (with_reducible refine below_drewN ?_) | (with_reducible refine Below.alloc ?_ ?_ _) | (with_reducible refine Below.drew ?_) | (with_reducible refine Below.setCell ?_ ?_ _) | (with_reducible refine Below.trans ?_ (Below.mono (by with_reducible assumption) ?_)) | go_size))).mono ?_); rintro e wu ⟨rfl, hqu⟩; have HBU : Hid (Below wr.heap.size wr wu) := hid (by obtain ⟨ku, h⟩ := hqu; rw [h]; have h1 := HBV.out; repeat' (first | (with_reducible exact Below.refl _ _) | (with_reducible assumption) | (with_reducible refine below_drewN ?_) | (with_reducible refine Below.alloc ?_ ?_ _) | (with_reducible refine Below.drew ?_) | (with_reducible refine Below.setCell ?_ ?_ _) | (with_reducible refine Below.trans ?_ (Below.mono (by with_reducible assumption) ?_)) | go_size)); have u0 := (HBU.out.cell (p := ⟨cb, 0, none⟩) hcw).trans c0; have u1 := (HBU.out.cell (p := ⟨cb, 1, none⟩) hcw).trans c1; have u2 := (HBU.out.cell (p := ⟨b, o + k, none⟩) hbw).trans k1; have u3 := (HBU.out.cell (p := ⟨b4, o4 + j1, none⟩) hb4w).trans kj; clear hqu))))
                all_goals
                  have HF := hid (HB13.out.trans (HBU.out.mono hwz))
                  clear HHV
                  go_wp2_with fail
                  go_roundg (gk - 1)
                  case rel => exact ⟨j1 + 1 + 1, by omega, by go_num, HF⟩
                  case measure => omega
              · obtain rfl : j = 0 := by omega
                have hn2 : decide (q ≤ k) = false := decide_eq_false (by omega)
                have hi3 : (0 : Int) ≤ (k : Int) := by omega
                have hi4 : (k : Int) < (q : Int) := by omega
                have hn1 : ¬ ((k : Int) < 0) := by omega
                clear HKJ
                refine wp_region_held_drew (S := fun w' => w'.cell? ⟨cb, 0, none⟩ = some (.string xn) ∧ w'.cell? ⟨cb, 1, none⟩ = some (.slice ua un uc) ∧ w'.cell? ⟨b, o + k, none⟩ = some (.string s)) (by kernel_rfl) (by exact ⟨c0, c1, k1⟩) (fun hHeld => ?_)
                refine wpAnyH_take (i := 0) (oi := ?o0) (v := ?v0) ?hi0 (by kernel_rfl) (by kernel_rfl) (by kernel_rfl) ?hq0 ?hy0 (by assumption) ?r0
                case hi0 => (simp only [List.getElem?_toArray, List.getElem?_cons_zero, List.getElem?_cons_succ]; exact rfl)
                case hq0 => exact fun _ _ _ h => h
                case hy0 =>
                  refine Or.inl ⟨by rfl, ?_⟩
                  intro w' hSw
                  (try dsimp only at hSw)
                  first
                  | (go_simp; done)
                  | (go_simp; with_reducible rfl)
                try simp only [Act.put, List.setIfInBounds_toArray, List.set_cons_zero, List.set_cons_succ]
                refine wpAnyH_take (i := 1) (oi := ?o1) (v := ?v1) ?hi1 (by kernel_rfl) (by kernel_rfl) (by kernel_rfl) ?hq1 ?hy1 (by assumption) ?r1
                case hi1 => (simp only [List.getElem?_toArray, List.getElem?_cons_zero, List.getElem?_cons_succ]; exact rfl)
                case hq1 => exact fun _ _ _ h => h
                case hy1 =>
                  refine Or.inl ⟨by rfl, ?_⟩
                  intro w' hSw
                  (try dsimp only at hSw)
                  first
                  | (go_simp; done)
                  | (go_simp; with_reducible rfl)
                try simp only [Act.put, List.setIfInBounds_toArray, List.set_cons_zero, List.set_cons_succ]
                refine wpAnyH_take (i := 2) (oi := ?o2) (v := ?v2) ?hi2 (by kernel_rfl) (by kernel_rfl) (by kernel_rfl) ?hq2 ?hy2 (by assumption) ?r2
                case hi2 => (simp only [List.getElem?_toArray, List.getElem?_cons_zero, List.getElem?_cons_succ]; exact rfl)
                case hq2 => exact fun _ _ _ h => h
                case hy2 =>
                  refine Or.inl ⟨by rfl, ?_⟩
                  intro w' hSw
                  (try dsimp only at hSw)
                  first
                  | (go_simp; done)
                  | (go_simp; with_reducible rfl)
                try simp only [Act.put, List.setIfInBounds_toArray, List.set_cons_zero, List.set_cons_succ]
                refine wpAnyH_take (i := 3) (oi := ?o3) (v := ?v3) ?hi3 (by kernel_rfl) (by kernel_rfl) (by kernel_rfl) ?hq3 ?hy3 (by assumption) ?r3
                case hi3 => (simp only [List.getElem?_toArray, List.getElem?_cons_zero, List.getElem?_cons_succ]; exact rfl)
                case hq3 => exact fun _ _ _ h => h
                case hy3 =>
                  refine Or.inl ⟨by rfl, ?_⟩
                  intro w' hSw
                  (try dsimp only at hSw)
                  first
                  | (go_simp; done)
                  | (go_simp; with_reducible rfl)
                try simp only [Act.put, List.setIfInBounds_toArray, List.set_cons_zero, List.set_cons_succ]
                refine wpAnyH_take (i := 4) (oi := ?o4) (v := ?v4) ?hi4 (by kernel_rfl) (by kernel_rfl) (by kernel_rfl) ?hq4 ?hy4 (by assumption) ?r4
                case hi4 => (simp only [List.getElem?_toArray, List.getElem?_cons_zero, List.getElem?_cons_succ]; exact rfl)
                case hq4 => exact fun _ _ _ h => h
                case hy4 =>
                  refine Or.inl ⟨by rfl, ?_⟩
                  intro w' hSw
                  (try dsimp only at hSw)
                  first
                  | (go_simp; done)
                  | (go_simp; with_reducible rfl)
                try simp only [Act.put, List.setIfInBounds_toArray, List.set_cons_zero, List.set_cons_succ]
                refine wpAnyH_take (i := 5) (oi := ?o5) (v := ?v5) ?hi5 (by kernel_rfl) (by kernel_rfl) (by kernel_rfl) ?hq5 ?hy5 (by assumption) ?r5
                case hi5 => (simp only [List.getElem?_toArray, List.getElem?_cons_zero, List.getElem?_cons_succ]; exact rfl)
                case hq5 => exact fun _ _ _ h => h
                case hy5 =>
                  refine Or.inl ⟨by rfl, ?_⟩
                  intro w' hSw
                  (try dsimp only at hSw)
                  first
                  | (go_simp; done)
                  | (go_simp; with_reducible rfl)
                try simp only [Act.put, List.setIfInBounds_toArray, List.set_cons_zero, List.set_cons_succ]
                refine wpAnyH_take (i := 6) (oi := ?o6) (v := ?v6) ?hi6 (by kernel_rfl) (by kernel_rfl) (by kernel_rfl) ?hq6 ?hy6 (by assumption) ?r6
                case hi6 => (simp only [List.getElem?_toArray, List.getElem?_cons_zero, List.getElem?_cons_succ]; exact rfl)
                case hq6 => exact fun _ _ _ h => h
                case hy6 =>
                  refine Or.inl ⟨by rfl, ?_⟩
                  intro w' hSw
                  (try dsimp only at hSw)
                  first
                  | (go_simp; done)
                  | (go_simp; with_reducible rfl)
                try simp only [Act.put, List.setIfInBounds_toArray, List.set_cons_zero, List.set_cons_succ]
                refine wpAnyH_take (i := 7) (oi := ?o7) (v := ?v7) ?hi7 (by kernel_rfl) (by kernel_rfl) (by kernel_rfl) ?hq7 ?hy7 (by assumption) ?r7
                case hi7 => (simp only [List.getElem?_toArray, List.getElem?_cons_zero, List.getElem?_cons_succ]; exact rfl)
                case hq7 => exact fun _ _ _ h => h
                case hy7 =>
                  refine Or.inl ⟨by rfl, ?_⟩
                  intro w' hSw
                  (try dsimp only at hSw)
                  first
                  | (go_simp; done)
                  | (go_simp; with_reducible rfl)
                try simp only [Act.put, List.setIfInBounds_toArray, List.set_cons_zero, List.set_cons_succ]
                refine wpAnyH_take (i := 8) (oi := ?o8) (v := ?v8) ?hi8 (by kernel_rfl) (by kernel_rfl) (by kernel_rfl) ?hq8 ?hy8 (by assumption) ?r8
                case hi8 => (simp only [List.getElem?_toArray, List.getElem?_cons_zero, List.getElem?_cons_succ]; exact rfl)
                case hq8 => exact fun _ _ _ h => h
                case hy8 =>
                  refine Or.inl ⟨by rfl, ?_⟩
                  intro w' hSw
                  (try dsimp only at hSw)
                  first
                  | (go_simp; done)
                  | (go_simp; with_reducible rfl)
                try simp only [Act.put, List.setIfInBounds_toArray, List.set_cons_zero, List.set_cons_succ]
                refine wpAnyH_take (i := 9) (oi := ?o9) (v := ?v9) ?hi9 (by kernel_rfl) (by kernel_rfl) (by kernel_rfl) ?hq9 ?hy9 (by assumption) ?r9
                case hi9 => (simp only [List.getElem?_toArray, List.getElem?_cons_zero, List.getElem?_cons_succ]; exact rfl)
                case hq9 => exact fun _ _ _ h => h
                case hy9 =>
                  refine Or.inl ⟨by rfl, ?_⟩
                  intro w' hSw
                  (try dsimp only at hSw)
                  first
                  | (go_simp; done)
                  | (go_simp; with_reducible rfl)
                try simp only [Act.put, List.setIfInBounds_toArray, List.set_cons_zero, List.set_cons_succ]
                refine wpAnyH_take (i := 10) (oi := ?o10) (v := ?v10) ?hi10 (by kernel_rfl) (by kernel_rfl) (by kernel_rfl) ?hq10 ?hy10 (by assumption) ?r10
                case hi10 => (simp only [List.getElem?_toArray, List.getElem?_cons_zero, List.getElem?_cons_succ]; exact rfl)
                case hq10 => exact fun _ _ _ h => h
                case hy10 =>
                  refine Or.inl ⟨by rfl, ?_⟩
                  intro w' hSw
                  (try dsimp only at hSw)
                  first
                  | (go_simp; done)
                  | (go_simp; with_reducible rfl)
                try simp only [Act.put, List.setIfInBounds_toArray, List.set_cons_zero, List.set_cons_succ]
                refine wpAnyH_take (i := 11) (oi := ?o11) (v := ?v11) ?hi11 (by kernel_rfl) (by kernel_rfl) (by kernel_rfl) ?hq11 ?hy11 (by assumption) ?r11
                case hi11 => (simp only [List.getElem?_toArray, List.getElem?_cons_zero, List.getElem?_cons_succ]; exact rfl)
                case hq11 => exact fun _ _ _ h => h
                case hy11 =>
                  refine Or.inl ⟨by rfl, ?_⟩
                  intro w' hSw
                  (try dsimp only at hSw)
                  first
                  | (go_simp; done)
                  | (go_simp; with_reducible rfl)
                try simp only [Act.put, List.setIfInBounds_toArray, List.set_cons_zero, List.set_cons_succ]
                refine wpAnyH_take (i := 12) (oi := ?o12) (v := undef) ?hi12 (by kernel_rfl) (by kernel_rfl) (by kernel_rfl) ?hq12 ?hy12 (by assumption) ?r12
                case hi12 => (simp only [List.getElem?_toArray, List.getElem?_cons_zero, List.getElem?_cons_succ]; exact rfl)
                case hq12 => exact fun _ _ _ h => h
                case hy12 =>
                  exact Or.inr ⟨by rfl, rfl⟩
                try simp only [Act.put, List.setIfInBounds_toArray, List.set_cons_zero, List.set_cons_succ]
                refine wpAnyH_take (i := 13) (oi := ?o13) (v := undef) ?hi13 (by kernel_rfl) (by kernel_rfl) (by kernel_rfl) ?hq13 ?hy13 (by assumption) ?r13
                case hi13 => (simp only [List.getElem?_toArray, List.getElem?_cons_zero, List.getElem?_cons_succ]; exact rfl)
                case hq13 => exact fun _ _ _ h => h
                case hy13 =>
                  exact Or.inr ⟨by rfl, rfl⟩
                try simp only [Act.put, List.setIfInBounds_toArray, List.set_cons_zero, List.set_cons_succ]
                refine wpAnyH_take (i := 14) (oi := ?o14) (v := undef) ?hi14 (by kernel_rfl) (by kernel_rfl) (by kernel_rfl) ?hq14 ?hy14 (by assumption) ?r14
                case hi14 => (simp only [List.getElem?_toArray, List.getElem?_cons_zero, List.getElem?_cons_succ]; exact rfl)
                case hq14 => exact fun _ _ _ h => h
                case hy14 =>
                  exact Or.inr ⟨by rfl, rfl⟩
                try simp only [Act.put, List.setIfInBounds_toArray, List.set_cons_zero, List.set_cons_succ]
                refine wpAnyH_take (i := 15) (oi := ?o15) (v := undef) ?hi15 (by kernel_rfl) (by kernel_rfl) (by kernel_rfl) ?hq15 ?hy15 (by assumption) ?r15
                case hi15 => (simp only [List.getElem?_toArray, List.getElem?_cons_zero, List.getElem?_cons_succ]; exact rfl)
                case hq15 => exact fun _ _ _ h => h
                case hy15 =>
                  exact Or.inr ⟨by rfl, rfl⟩
                try simp only [Act.put, List.setIfInBounds_toArray, List.set_cons_zero, List.set_cons_succ]
                refine wpAnyH_take (i := 16) (oi := ?o16) (v := undef) ?hi16 (by kernel_rfl) (by kernel_rfl) (by kernel_rfl) ?hq16 ?hy16 (by assumption) ?r16
                case hi16 => (simp only [List.getElem?_toArray, List.getElem?_cons_zero, List.getElem?_cons_succ]; exact rfl)
                case hq16 => exact fun _ _ _ h => h
                case hy16 =>
                  exact Or.inr ⟨by rfl, rfl⟩
                try simp only [Act.put, List.setIfInBounds_toArray, List.set_cons_zero, List.set_cons_succ]
                refine wpAnyH_take (i := 17) (oi := ?o17) (v := undef) ?hi17 (by kernel_rfl) (by kernel_rfl) (by kernel_rfl) ?hq17 ?hy17 (by assumption) ?r17
                case hi17 => (simp only [List.getElem?_toArray, List.getElem?_cons_zero, List.getElem?_cons_succ]; exact rfl)
                case hq17 => exact fun _ _ _ h => h
                case hy17 =>
                  exact Or.inr ⟨by rfl, rfl⟩
                try simp only [Act.put, List.setIfInBounds_toArray, List.set_cons_zero, List.set_cons_succ]
                refine wpAnyH_take (i := 18) (oi := ?o18) (v := undef) ?hi18 (by kernel_rfl) (by kernel_rfl) (by kernel_rfl) ?hq18 ?hy18 (by assumption) ?r18
                case hi18 => (simp only [List.getElem?_toArray, List.getElem?_cons_zero, List.getElem?_cons_succ]; exact rfl)
                case hq18 => exact fun _ _ _ h => h
                case hy18 =>
                  exact Or.inr ⟨by rfl, rfl⟩
                try simp only [Act.put, List.setIfInBounds_toArray, List.set_cons_zero, List.set_cons_succ]
                refine wpAnyH_take (i := 19) (oi := ?o19) (v := ?v19) ?hi19 (by kernel_rfl) (by kernel_rfl) (by kernel_rfl) ?hq19 ?hy19 (by assumption) ?r19
                case hi19 => (simp only [List.getElem?_toArray, List.getElem?_cons_zero, List.getElem?_cons_succ]; exact rfl)
                case hq19 => exact fun _ _ _ h => h
                case hy19 =>
                  refine Or.inl ⟨by rfl, ?_⟩
                  intro w' hSw
                  (try dsimp only at hSw)
                  first
                  | (go_simp; done)
                  | (go_simp; with_reducible rfl)
                try simp only [Act.put, List.setIfInBounds_toArray, List.set_cons_zero, List.set_cons_succ]
                refine wpAnyH_take (i := 20) (oi := ?o20) (v := ?v20) ?hi20 (by kernel_rfl) (by kernel_rfl) (by kernel_rfl) ?hq20 ?hy20 (by assumption) ?r20
                case hi20 => (simp only [List.getElem?_toArray, List.getElem?_cons_zero, List.getElem?_cons_succ]; exact rfl)
                case hq20 => exact fun _ _ _ h => h
                case hy20 =>
                  refine Or.inl ⟨by rfl, ?_⟩
                  intro w' hSw
                  (try dsimp only at hSw)
                  first
                  | (go_simp; done)
                  | (go_simp; with_reducible rfl)
                try simp only [Act.put, List.setIfInBounds_toArray, List.set_cons_zero, List.set_cons_succ]
                refine wpAnyH_take (i := 21) (oi := ?o21) (v := ?v21) ?hi21 (by kernel_rfl) (by kernel_rfl) (by kernel_rfl) ?hq21 ?hy21 (by assumption) ?r21
                case hi21 => (simp only [List.getElem?_toArray, List.getElem?_cons_zero, List.getElem?_cons_succ]; exact rfl)
                case hq21 => exact fun _ _ _ h => h
                case hy21 =>
                  refine Or.inl ⟨by rfl, ?_⟩
                  intro w' hSw
                  (try dsimp only at hSw)
                  first
                  | (go_simp; done)
                  | (go_simp; with_reducible rfl)
                try simp only [Act.put, List.setIfInBounds_toArray, List.set_cons_zero, List.set_cons_succ]
                refine wpAnyH_take (i := 22) (oi := ?o22) (v := ?v22) ?hi22 (by kernel_rfl) (by kernel_rfl) (by kernel_rfl) ?hq22 ?hy22 (by assumption) ?r22
                case hi22 => (simp only [List.getElem?_toArray, List.getElem?_cons_zero, List.getElem?_cons_succ]; exact rfl)
                case hq22 => exact fun _ _ _ h => h
                case hy22 =>
                  refine Or.inl ⟨by rfl, ?_⟩
                  intro w' hSw
                  (try dsimp only at hSw)
                  first
                  | (go_simp; done)
                  | (go_simp; with_reducible rfl)
                try simp only [Act.put, List.setIfInBounds_toArray, List.set_cons_zero, List.set_cons_succ]
                refine wpAnyH_take (i := 24) (oi := ?o24) (v := ?v24) ?hi24 (by kernel_rfl) (by kernel_rfl) (by kernel_rfl) ?hq24 ?hy24 (by assumption) ?r24
                case hi24 => (simp only [List.getElem?_toArray, List.getElem?_cons_zero, List.getElem?_cons_succ]; exact rfl)
                case hq24 => exact fun _ _ _ h => h
                case hy24 =>
                  refine Or.inl ⟨by rfl, ?_⟩
                  intro w' hSw
                  (try dsimp only at hSw)
                  first
                  | (go_simp; done)
                  | (go_simp; with_reducible rfl)
                try simp only [Act.put, List.setIfInBounds_toArray, List.set_cons_zero, List.set_cons_succ]
                refine wpAnyH_take (i := 25) (oi := ?o25) (v := ?v25) ?hi25 (by kernel_rfl) (by kernel_rfl) (by kernel_rfl) ?hq25 ?hy25 (by assumption) ?r25
                case hi25 => (simp only [List.getElem?_toArray, List.getElem?_cons_zero, List.getElem?_cons_succ]; exact rfl)
                case hq25 => exact fun _ _ _ h => h
                case hy25 =>
                  refine Or.inl ⟨by rfl, ?_⟩
                  intro w' hSw
                  (try dsimp only at hSw)
                  first
                  | (go_simp; done)
                  | (go_simp; with_reducible rfl)
                try simp only [Act.put, List.setIfInBounds_toArray, List.set_cons_zero, List.set_cons_succ]
                refine wpAnyH_take (i := 26) (oi := ?o26) (v := ?v26) ?hi26 (by kernel_rfl) (by kernel_rfl) (by kernel_rfl) ?hq26 ?hy26 (by assumption) ?r26
                case hi26 => (simp only [List.getElem?_toArray, List.getElem?_cons_zero, List.getElem?_cons_succ]; exact rfl)
                case hq26 => exact fun _ _ _ h => h
                case hy26 =>
                  refine Or.inl ⟨by rfl, ?_⟩
                  intro w' hSw
                  (try dsimp only at hSw)
                  first
                  | (go_simp; done)
                  | (go_simp; with_reducible rfl)
                try simp only [Act.put, List.setIfInBounds_toArray, List.set_cons_zero, List.set_cons_succ]
                refine wpAnyH_take (i := 27) (oi := ?o27) (v := ?v27) ?hi27 (by kernel_rfl) (by kernel_rfl) (by kernel_rfl) ?hq27 ?hy27 (by assumption) ?r27
                case hi27 => (simp only [List.getElem?_toArray, List.getElem?_cons_zero, List.getElem?_cons_succ]; exact rfl)
                case hq27 => exact fun _ _ _ h => h
                case hy27 =>
                  refine Or.inl ⟨by rfl, ?_⟩
                  intro w' hSw
                  (try dsimp only at hSw)
                  first
                  | (go_simp; done)
                  | (go_simp; with_reducible rfl)
                try simp only [Act.put, List.setIfInBounds_toArray, List.set_cons_zero, List.set_cons_succ]
                refine wpAnyH_ready (rs := [23]) (by kernel_rfl) (by simp) ?_
                refine AllReadyH.cons rfl (fun K hK => ?_) AllReadyH.nil
                go_simp
                go_at_call 21
                (with_reducible refine (HVAL.out _ (by have h1 := HB7W.out; repeat' (first | (with_reducible exact Below.refl _ _) | (with_reducible assumption) | (with_reducible refine below_drewN ?_) | (with_reducible refine Below.alloc ?_ ?_ _) | (with_reducible refine Below.drew ?_) | (with_reducible refine Below.setCell ?_ ?_ _) | (with_reducible refine Below.trans ?_ (Below.mono (by with_reducible assumption) ?_)) | go_size))).mono ?_)
                rintro e wv ⟨va, vc, rfl, hownv, hbv⟩
                have HBV : Hid (Below wr.heap.size wr wv) := hid (by have h1 := HQW.out; repeat' (first | (with_reducible exact Below.refl _ _) | (with_reducible assumption) | (with_reducible refine below_drewN ?_) | (with_reducible refine Below.alloc ?_ ?_ _) | (with_reducible refine Below.drew ?_) | (with_reducible refine Below.setCell ?_ ?_ _) | (with_reducible refine Below.trans ?_ (Below.mono (by with_reducible assumption) ?_)) | go_size))
                have s0 := (HBV.out.cell (p := ⟨cb, 0, none⟩) hcw).trans c0
                have s1 := (HBV.out.cell (p := ⟨cb, 1, none⟩) hcw).trans c1
                have s2 := (HBV.out.cell (p := ⟨b, o + k, none⟩) hbw).trans k1
                have HHV := hid (has_later hhas hownv)
                clear hownv hbv
                refine hK.out _ _ (by exact ⟨s0, s1, s2⟩) (fun hHeld2 => ?_)
                clear hK K
                try simp only [Act.put, List.setIfInBounds_toArray, List.set_cons_zero, List.set_cons_succ]
                refine wpAnyH_ready (rs := [28]) (by kernel_rfl) (by simp) ?_
                refine AllReadyH.cons rfl (fun K hK => ?_) AllReadyH.nil
                go_simp
                go_at_call 12
                (with_reducible refine (HHV.out _ (by have h1 := Below.refl wv.heap.size wv; repeat' (first | (with_reducible exact Below.refl _ _) | (with_reducible assumption) | (with_reducible refine below_drewN ?_) | (with_reducible refine Below.alloc ?_ ?_ _) | (with_reducible refine Below.drew ?_) | (with_reducible refine Below.setCell ?_ ?_ _) | (with_reducible refine Below.trans ?_ (Below.mono (by with_reducible assumption) ?_)) | go_size))).mono ?_)
                rintro e wu ⟨rfl, hqu⟩
                have HBU : Hid (Below wr.heap.size wr wu) := hid (by obtain ⟨ku, h⟩ := hqu; rw [h]; have h1 := HBV.out; repeat' (first | (with_reducible exact Below.refl _ _) | (with_reducible assumption) | (with_reducible refine below_drewN ?_) | (with_reducible refine Below.alloc ?_ ?_ _) | (with_reducible refine Below.drew ?_) | (with_reducible refine Below.setCell ?_ ?_ _) | (with_reducible refine Below.trans ?_ (Below.mono (by with_reducible assumption) ?_)) | go_size))
                have u0 := (HBU.out.cell (p := ⟨cb, 0, none⟩) hcw).trans c0
                have u1 := (HBU.out.cell (p := ⟨cb, 1, none⟩) hcw).trans c1
                have u2 := (HBU.out.cell (p := ⟨b, o + k, none⟩) hbw).trans k1
                clear hqu
                refine hK.out _ _ (by exact ⟨u0, u1, u2⟩) (fun hHeld2 => ?_)
                clear hK K
                try simp only [Act.put, List.setIfInBounds_toArray, List.set_cons_zero, List.set_cons_succ]
                refine wpAnyH_take (i := 29) (oi := ?o29) (v := ?v29) ?hi29 (by kernel_rfl) (by kernel_rfl) (by kernel_rfl) ?hq29 ?hy29 (by assumption) ?r29
                case hi29 => (simp only [List.getElem?_toArray, List.getElem?_cons_zero, List.getElem?_cons_succ]; exact rfl)
                case hq29 => exact fun _ _ _ h => h
                case hy29 =>
                  refine Or.inl ⟨by rfl, ?_⟩
                  intro w' hSw
                  (try dsimp only at hSw)
                  first
                  | (go_simp; done)
                  | (go_simp; with_reducible rfl)
                try simp only [Act.put, List.setIfInBounds_toArray, List.set_cons_zero, List.set_cons_succ]
                refine wpAnyH_take (i := 30) (oi := ?o30) (v := ?v30) ?hi30 (by kernel_rfl) (by kernel_rfl) (by kernel_rfl) ?hq30 ?hy30 (by assumption) ?r30
                case hi30 => (simp only [List.getElem?_toArray, List.getElem?_cons_zero, List.getElem?_cons_succ]; exact rfl)
                case hq30 => exact fun _ _ _ h => h
                case hy30 =>
                  refine Or.inl ⟨by rfl, ?_⟩
                  intro w' hSw
                  (try dsimp only at hSw)
                  first
                  | (go_simp; done)
                  | (go_simp; with_reducible rfl)
                try simp only [Act.put, List.setIfInBounds_toArray, List.set_cons_zero, List.set_cons_succ]
                refine wpAnyH_done (by kernel_rfl) ?_ _
                all_goals
                  have HF := hid (HB13.out.trans (HBU.out.mono hwz))
                  clear HHV
                  go_wp2_with fail
                  go_roundg (gk - 1)
                  case rel => exact ⟨0 + 1, by omega, by go_num, HF⟩
                  case measure => omega
            · obtain rfl : j = X.length := by omega
              go_wp2_with fail
              go_roundg (ko - 1)
              case rel => exact ⟨p + 1, by omega, by go_num, by rw [HALQ.out]; go_num, hid (HB512.out.trans (HB13.out.mono (by have := HB512.out.size; omega)))⟩
              case measure => omega
        · obtain rfl : p = n := by omega
          have HBF := hid (HB4.out.trans ((HB5.out.trans (HB6.out.mono hz5)).mono HB4.out.size))
          have HNR := hid (HNOT.out wr (HB5.out.trans (HB6.out.mono hz5)))
          have hle := HALF.out
          have hcb := HALB.out p (Nat.le_refl _)
          generalize (allOf ((cvsL ts).take p)).length = m at *
          have hd1 : decide ((q : Int) ≤ (m : Int)) = true := decide_eq_true (by omega)
          go_wp2_with fail
          with_reducible refine HNR.out.mono ?_
          rintro e w7 ⟨rfl, rfl⟩
          go_wp2
          go_ret
          exact ⟨rfl, HBF.out⟩

end Go.Proofs.YtabemneoobbnaaaGreatDoor
