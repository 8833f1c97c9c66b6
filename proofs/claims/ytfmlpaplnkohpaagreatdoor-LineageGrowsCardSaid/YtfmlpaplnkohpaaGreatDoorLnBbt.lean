/- The walk of LineageRight. -/
import Derived.Deep.Cut
import Derived.Test.YtfmlpaplnkohpaaGreatDoorLnBbj
import Derived.Test.YtfmlpaplnkohpaaGreatDoorLnBbs
import Derived.Test.YtfmlpaplnkohpaaGreatDoorLnBbq
set_option linter.unusedVariables false
set_option linter.unusedSimpArgs false
namespace Go.Proofs.YtfmlpaplnkohpaaGreatDoor
open Go.RowKit
theorem find_memR {v : Value} {ts : List Ta} {B : Nat} {w : World} (h : ListV ts) (hv : RdTa w (· < B) v ts) (hB : B ≤ w.heap.size) {t : Ta} (ht : t ∈ ts) : Calls Tryz.prog 32 #[v, .int .i64 t.id] w (FindP w B t) := by
  obtain ⟨i, hi, rfl⟩ := List.getElem_of_mem ht
  have e : ts[i] = ts.getD i Ta.z := by simp [List.getD, hi]
  rw [e]
  have hl := h.1
  exact ref_Find v ts B i w hi (fun j hj => by have := ids_up h.2.2 hj hi; omega) (by omega) hv hB
theorem ta_at {w : World} {S : Nat → Prop} {v : Value} {ts : List Ta} (h : RdTa w S v ts) {q : Nat} (hq : q < ts.length) : ∃ b o c x y, v = .slice (some ⟨b, o, none⟩) ts.length c ∧ S b ∧ RdCo w S (.slice x (ts.getD q Ta.z).cols.length y) (ts.getD q Ta.z).cols ∧
    w.cell? ⟨b, o + q * 3, none⟩ = some (.int .i64 (ts.getD q Ta.z).id) ∧ w.cell? ⟨b, o + q * 3 + 1, none⟩ = some (.string (ts.getD q Ta.z).name) ∧ w.cell? ⟨b, o + q * 3 + 2, none⟩ = some (.slice x (ts.getD q Ta.z).cols.length y) := by
  obtain ⟨tv, ⟨a, c, rfl, -, -, hr⟩, hk⟩ := h
  obtain ⟨b, o, rfl, hb, hc⟩ := hr (by omega)
  have hkq := hk q hq
  obtain ⟨cv, ⟨x, y, e, -⟩, -⟩ := hkq
  have hkq := hk q hq
  have h2 := hc q hq 2 (by omega)
  simp only [taF, three] at h2
  rw [e] at hkq h2
  exact ⟨b, o, c, x, y, rfl, hb, hkq, hc q hq 0 (by omega), hc q hq 1 (by omega), h2⟩
theorem cnt_mul {t : Ta} (h : Cnt t.cols) : wrap64 ((t.cols.length : Int) * (rowsC t.cols : Int)) = (cellsT t : Int) := by
  have h1 := h.cells
  unfold cellsT at h1 ⊢
  have e : ((rowsC t.cols * t.cols.length : Nat) : Int) = (t.cols.length : Int) * (rowsC t.cols : Int) := by
    rw [Nat.mul_comm]
    simp
  rw [← e]
  unfold wrap64
  omega
set_option maxRecDepth 100000 in
set_option maxHeartbeats 8000000 in
theorem law39_right (a : Option Addr) (n c : Nat) (w : World) (hA : RdI w w.heap.size a n c) (hT : Tabs w) (hP : Pow w) :
    Calls Tryz.prog 7 #[.slice a n c] w (Ret w (.bool true)) := by
  have HA := hid hA
  have HT := hid hT
  have HP := hid hP
  have hnm : n ≤ maxLen := Nat.le_trans hA.1 hA.2.1
  have HAW := hid (fun W (hW : Below w.heap.size w W) => law39_awake W (hT.below hW))
  clear hA hT hP
  by_cases hg : n ≤ 500
  · have HLI := hid (kit_Light a n c w hnm)
    rw [decide_eq_true hg] at HLI
    go_enter Tryz.func7, Tryz.ntmps7
    generalize hLA : Code.loop _ = LA
    go_wp2_with fail
    with_reducible refine HLI.out.mono ?_
    rintro e w0 ⟨rfl, rfl⟩
    clear HLI
    go_wp2_with fail
    with_reducible refine (kit_Roll a n c _ HA.out hg HP.out).mono ?_
    rintro e w1 ⟨rfl, hd1, hb1⟩
    have hz1 := hd1.lt
    have HB1 := hid hb1
    have HFA := hid (law39_family w.heap.size w1 hd1 ⟨w, HT.out, Nat.le_refl _, hb1⟩)
    clear hd1 hb1
    go_wp2_with fail
    with_reducible refine HFA.out.mono ?_
    rintro e w2 ⟨k, ts, v, rfl, hok, hl3, hl4, hids, hfq, hv, -, hr2⟩
    have hlist := fam_list hl4 hids hfq
    have hfew : ∀ t ∈ ts, Few t.cols := fun t ht => fam_few hok (hfq t ht)
    have HB2 := hid (HB1.out.trans (hr2.below (B' := w.heap.size) (Nat.le_refl _) (by omega)))
    have hv2 := hv.more (S' := (· < w2.heap.size)) fun b hb => hb.2
    have HV := hid (fun W (hW : Below w2.heap.size w2 W) => hv2.keep (w' := W) fun p (hp : p.block < w2.heap.size) => hW.cell (p := p) hp)
    have HLI2 := hid (lin_Links ts v w2.heap.size w2 hlist hfew hv2 (Nat.le_refl _) (HT.out.below HB2.out))
    have HLIST := hid hlist
    have HRT := hid (links_right hlist hfew)
    have HLD := hid (links_dst hlist.2.2)
    have HLL : Hid ((linksL ts).length ≤ ts.length) := hid (List.length_filterMap_le _ _)
    have HWAY := hid (fun s (hs : s ∈ ts) => way_of hlist.2.2 hs (k := ts.length + 1) (by omega))
    have HRID := hid (root_ids hlist.2.2)
    have HRC := hid (roots_count ts)
    have HIDI := hid (fun a b ha hb => @id_inj ts hlist.2.2 a b ha hb)
    have hlt : ts.length ≤ 4 := hl4
    obtain ⟨va, vc, rfl⟩ : ∃ x y, v = .slice x ts.length y := by
      obtain ⟨tv, ⟨x, y, e, -⟩, -⟩ := hv
      exact ⟨x, y, e⟩
    clear hv hv2 hr2 hids hfq hok hfew hlist HFA
    obtain ⟨N, hN⟩ : ∃ N, N = ts.length := ⟨_, rfl⟩
    rw [← hN] at HV HLI2 hlt HLL HWAY HRC
    rw [← hN]
    have HN := hid hN.symm
    clear hN hl3 hl4
    go_wp2_with fail
    with_reducible refine HLI2.out.mono ?_
    rintro e w3 ⟨u, rfl, hu, hb3⟩
    have HB3 := hid hb3
    have hu3 := hu.more (S' := (· < w3.heap.size)) fun b hb => hb.2
    have HU := hid (fun W (hW : Below w3.heap.size w3 W) => hu3.keep (w' := W) fun p (hp : p.block < w3.heap.size) => hW.cell (p := p) hp)
    obtain ⟨ua, uc, rfl, -, -⟩ := rdLk_len hu
    obtain ⟨M, hM⟩ : ∃ M, M = (linksL ts).length := ⟨_, rfl⟩
    rw [← hM] at HU HLL HRC
    rw [← hM]
    have HM := hid hM.symm
    clear hM hu hu3 hb3 HLI2
    have HCK := hid (lin_Check ts (linksL ts) (.slice va N vc) (.slice ua M uc) w3.heap.size w3 HLIST.out HRT.out HLD.out (by have h1 := HLL.out; have h2 := HM.out; omega) ((HV.out w3 HB3.out).more fun b (hb : b < w2.heap.size) => Nat.lt_of_lt_of_le hb HB3.out.size) (HU.out w3 (Below.refl _ _)) (Nat.le_refl _) (HT.out.below (HB2.out.trans (HB3.out.mono HB2.out.size))))
    go_wp2_with fail
    with_reducible refine HCK.out.mono ?_
    rintro e w4 ⟨rfl, hb4⟩
    have HB4 := hid hb4
    have HB24 := hid (HB3.out.trans (hb4.mono HB3.out.size))
    have HRO := hid (lin_Roots ts (linksL ts) (.slice va N vc) (.slice ua M uc) w4.heap.size w4 HLIST.out.2.2 (by have := HN.out; omega) (by have h1 := HLL.out; have h2 := HM.out; omega) ((HV.out w4 HB24.out).more fun b (hb : b < w2.heap.size) => Nat.lt_of_lt_of_le hb HB24.out.size) ((HU.out w4 hb4).more fun b (hb : b < w3.heap.size) => Nat.lt_of_lt_of_le hb hb4.size) (Nat.le_refl _))
    unfold RootsP at HRO
    rw [HRID.out] at HRO
    clear hb4 HCK HRID
    go_wp2_with fail
    with_reducible refine HRO.out.mono ?_
    rintro e w5 ⟨rv, rfl, hrv, hb5⟩
    have HB35 := hid (HB4.out.trans (hb5.mono HB4.out.size))
    have HB25 := hid (HB24.out.trans (hb5.mono HB24.out.size))
    have hrv5 := hrv.more (S' := (· < w5.heap.size)) fun b hb => hb.2
    have HRV := hid (fun W (hW : Below w5.heap.size w5 W) => InK.keep (w' := W) hrv5 fun p (hp : p.block < w5.heap.size) => hW.cell (p := p) hp)
    obtain ⟨ra, rc, rfl, hrc1, hrc2, -⟩ := hrv
    have HRL : Hid (((rootsT ts).map Ta.id).length + M = N) := hid (by rw [List.length_map]; exact HRC.out)
    have hRMEM := fun t (ht : t ∈ rootsT ts) => (List.mem_map_of_mem (f := Ta.id) ht)
    have HRMEM := hid hRMEM
    generalize (rootsT ts).map Ta.id = RI at *
    obtain ⟨R, hR⟩ : ∃ R, R = RI.length := ⟨_, rfl⟩
    rw [← hR] at HRV HRL
    rw [← hR]
    have HR := hid hR.symm
    clear hR hb5 hrv5 HRO HRC hRMEM hrc1 hrc2
    subst hLA
    go_wp2_with fail
    go_loopg [45] N (fun K i wr => ∃ q : Nat, i = .int .i64 (q : Int) ∧ q + K = N ∧ Hid (Below w5.heap.size w5 wr))
    case atStart => exact ⟨0, rfl, by omega, hid (Below.refl _ _)⟩
    case round =>
      obtain ⟨q, rfl, hq, HB⟩ := hrel
      obtain ⟨wo, rfl⟩ : ∃ wo, wo = wr := ⟨wr, rfl⟩
      obtain ⟨go, rfl⟩ : ∃ go, go = gk := ⟨gk, rfl⟩
      have hwo := HB.out.size
      have HB2o := hid (HB25.out.trans (HB.out.mono HB25.out.size))
      have HB3o := hid (HB35.out.trans (HB.out.mono HB35.out.size))
      by_cases hp : 0 < go
      · have hqN : q < N := by omega
        have hqi : (q : Int) < (N : Int) := by omega
        obtain ⟨b, o, c3, xb, yb, e3, hb, hrb, k0, k1, k2⟩ := ta_at (HV.out wo HB2o.out) (q := q) (by rw [HN.out]; exact hqN)
        rw [HN.out] at e3
        obtain ⟨rfl, -, rfl⟩ := Value.slice.inj e3
        have hbm : ts.getD q Ta.z ∈ ts := getD_mem (by rw [HN.out]; exact hqN) _
        obtain ⟨way, hw1, hw2, hw3, hw4⟩ := HWAY.out _ hbm
        have HUP := hid (fun p (hp : p < way.length) => up_at hw2 p hp)
        have HMEM := hid (fun p (hp : p < way.length) => up_mem hw2 _ (getD_mem hp Ta.z))
        have HLAST := hid (by have h := HRMEM.out _ hw4; rw [last_at] at h; exact h : ((ts.getD q Ta.z :: way).getD way.length Ta.z).id ∈ RI)
        have HANE : Hid (ancL (linksL ts) (N + 1) [(ts.getD q Ta.z).id] = (ts.getD q Ta.z).id :: way.map Ta.id) := hid (by rw [hw1]; rfl)
        have hne : ∀ p, p < way.length → (way.getD p Ta.z).id ≠ (ts.getD q Ta.z).id := fun p hp e => by
          have h1 := (HUP.out p hp).2
          rw [HIDI.out _ _ (HMEM.out p hp) hbm e, grT_irrefl] at h1
          cases h1
        have HNE := hid hne
        clear hne
        have HAN := hid (fun W (hW : Below w3.heap.size w3 W) => lin_Ancestors (.slice ua M uc) (linksL ts) w3.heap.size (ts.getD q Ta.z).id (N + 1) W (by have h1 := HLL.out; have h2 := HM.out; omega) (by have h1 := HLL.out; have h2 := HM.out; omega) (HU.out W hW) hW.size)
        unfold AncP at HAN
        rw [HANE.out] at HAN
        simp only [List.drop_one, List.tail_cons] at HAN
        have HVB := hid (HLIST.out.2.1 _ hbm)
        have HRB := hid (fun W (hW : Below wo.heap.size wo W) => (hrb.keep (w' := W) fun p (hp : p.block < w2.heap.size) => hW.cell (p := p) (by have := HB2o.out.size; omega)))
        clear e3 hb hrb hw1 hw2 hw3 hw4 hbm HANE
        generalize ts.getD q Ta.z = tb at *
        obtain ⟨ib, nb, cb⟩ := tb
        simp only at k0 k1 k2 HNE HAN HRB
        obtain ⟨lb, hlb⟩ : ∃ lb, lb = cb.length := ⟨_, rfl⟩
        rw [← hlb] at k2 HRB
        have HLB := hid hlb.symm
        clear hlb
        have hbx := BoxN.new wo #[.int .i64 ib, .string nb, .slice xb lb yb] 29
        have hsx := (Below.refl wo.heap.size wo).alloc (Nat.le_refl _) (.cells #[.int .i64 ib, .string nb, .slice xb lb yb] 29)
        obtain ⟨W8, hW8⟩ : ∃ W8, W8 = wo.alloc (.cells #[.int .i64 ib, .string nb, .slice xb lb yb] 29) := ⟨_, rfl⟩
        rw [← hW8] at hbx hsx
        have HBX := hid hbx
        have HSX := hid hsx
        have hbl := hbx.lt
        have hw8 := hsx.size
        have x0 := hbx.cell 0 rfl
        rw [hW8] at x0
        clear hbx hsx
        go_wp2_with fail
        rw [← hW8]
        clear hW8 x0 k0 k1 k2
        with_reducible refine (HAN.out W8 (HB3o.out.trans (HSX.out.mono HB3o.out.size))).mono ?_
        rintro e w9 ⟨z, rfl, hz, hb9⟩
        have HB9 := hid (HSX.out.trans (hb9.mono hw8))
        have HBX9 := hid (HBX.out.below hb9 hbl)
        have hz9 := hz.more (S' := (· < w9.heap.size)) fun b hb => hb.2
        have HZ := hid (fun W (hW : Below w9.heap.size w9 W) => InK.keep (w' := W) hz9 fun p (hp : p.block < w9.heap.size) => hW.cell (p := p) hp)
        have hmz := rdKs_max hz
        obtain ⟨za, zc, rfl, -⟩ := hz
        have HWID := hid (fun p (hp : p < way.length) => (by simp [List.getD, hp] : (way.map Ta.id).getD p 0 = (way.getD p Ta.z).id))
        have hml : (way.map Ta.id).length = way.length := by simp
        rw [hml] at HZ hmz ⊢
        obtain ⟨D, hD⟩ : ∃ D, D = way.length := ⟨_, rfl⟩
        rw [← hD] at HZ HUP HMEM HLAST HNE HWID hml hmz
        rw [← hD]
        have HML := hid hml
        clear hz9 hb9 HAN hml hD
        have x0 := HBX9.out.cell 0 rfl
        have x1 := HBX9.out.cell 1 rfl
        have x2 := HBX9.out.cell 2 rfl
        have HB10 : Hid (BoxN (w9.alloc (.cells #[.int .i64 ib, .string nb, .slice xb lb yb] 29)) w9.heap.size 29 #[.int .i64 ib, .string nb, .slice xb lb yb]) := hid (BoxN.new w9 _ _)
        have HS10 := hid ((Below.refl w9.heap.size w9).alloc (Nat.le_refl _) (.cells #[.int .i64 ib, .string nb, .slice xb lb yb] 29))
        have hbl9 := HBX9.out.lt
        have hw9 := HB9.out.size
        go_wp2_with fail
        clear x0 x1 x2
        generalize w9.alloc (.cells #[.int .i64 ib, .string nb, .slice xb lb yb] 29) = W10 at *
        go_loopg [56] D (fun K i wr => ∃ (p : Nat) (xl : Option Addr) (yl : Nat), i = .int .i64 (p : Int) ∧ p + K = D ∧ Hid (Below w9.heap.size w9 wr) ∧ Hid (BoxN wr w9.heap.size 29 #[.int .i64 (((⟨ib, nb, cb⟩ : Ta) :: way).getD p Ta.z).id, .string (((⟨ib, nb, cb⟩ : Ta) :: way).getD p Ta.z).name, .slice xl (((⟨ib, nb, cb⟩ : Ta) :: way).getD p Ta.z).cols.length yl]) ∧
          Hid (RdCo wr (· < w2.heap.size) (.slice xl (((⟨ib, nb, cb⟩ : Ta) :: way).getD p Ta.z).cols.length yl) (((⟨ib, nb, cb⟩ : Ta) :: way).getD p Ta.z).cols) ∧ Hid (Cnt (((⟨ib, nb, cb⟩ : Ta) :: way).getD p Ta.z).cols))
        case atStart => exact ⟨0, xb, yb, rfl, by omega, HS10, hid (by show BoxN W10 _ _ #[.int .i64 ib, .string nb, .slice xb cb.length yb]; rw [HLB.out]; exact HB10.out), hid (by show RdCo W10 _ (.slice xb cb.length yb) cb; rw [HLB.out]; exact HRB.out W10 (HB9.out.trans (HS10.out.mono hw9))), hid HVB.out.cnt⟩
        case round =>
          obtain ⟨p, xl, yl, rfl, hpD, HBI, HBL, HRL2, HCL⟩ := hrel
          obtain ⟨wi, rfl⟩ : ∃ wi, wi = wr := ⟨wr, rfl⟩
          have hwi := HBI.out.size
          have HB9i := hid (HB9.out.trans (HBI.out.mono hw9))
          have HB2i := hid (HB2o.out.trans (HB9i.out.mono HB2o.out.size))
          have h2i := HB2i.out.size
          by_cases hp2 : 0 < gk
          · have hpn : p < D := by omega
            have hpi : (p : Int) < (D : Int) := by omega
            obtain ⟨za', zc', ez, -, -, hzr⟩ := HZ.out wi HBI.out
            obtain ⟨zb, zo, rfl, hzb, hzcell⟩ := hzr (by omega)
            obtain ⟨rfl, -, rfl⟩ := Value.slice.inj ez
            have hz0 := hzcell p hpn 0 (by omega)
            simp only [Nat.mul_one, Nat.add_zero, zF] at hz0
            rw [HWID.out p hpn] at hz0
            have HFI := hid (find_memR HLIST.out (HV.out wi HB2i.out) h2i (HMEM.out p hpn))
            have hgr := (HUP.out p hpn).1
            have hne := HNE.out p hpn
            have hnext : ((⟨ib, nb, cb⟩ : Ta) :: way).getD (p + 1) Ta.z = way.getD p Ta.z := by simp
            have HNX := hid hnext
            have HCA := hid (HLIST.out.2.1 _ (HMEM.out p hpn)).cnt
            clear ez hzr hzcell hnext
            generalize way.getD p Ta.z = ta at *
            generalize hTL : ((⟨ib, nb, cb⟩ : Ta) :: way).getD p Ta.z = tl at *
            clear hTL
            rw [grT_iff] at hgr
            obtain ⟨ia, na, ca⟩ := ta
            obtain ⟨il, nl, cl⟩ := tl
            simp only at hz0 hne HBL HRL2 HCL HCA
            go_wp2_with fail
            with_reducible refine HFI.out.mono ?_
            rintro e wf ⟨ua, rfl, hua, hbf⟩
            simp only at hua ⊢
            obtain ⟨ax, ay, rfl⟩ := rdCo_len hua
            have hAL : ∃ la, la = ca.length := ⟨_, rfl⟩
            obtain ⟨la, hla⟩ := hAL
            rw [← hla] at hua ⊢
            have HLAE := hid hla
            have hLL2 : ∃ ll, ll = cl.length := ⟨_, rfl⟩
            obtain ⟨ll, hll⟩ := hLL2
            rw [← hll] at HBL HRL2
            have HLLE := hid hll
            have ec1 := cnt_mul (t := ⟨ia, na, ca⟩) HCA.out
            have ec2 := cnt_mul (t := ⟨il, nl, cl⟩) HCL.out
            simp only at ec1 ec2
            rw [← hla] at ec1
            rw [← hll] at ec2
            have HE1 := hid ec1
            have HE2 := hid ec2
            clear hla hll ec1 ec2
            have HBF := hid hbf
            have hwf := hbf.size
            have HBIF := hid (HBI.out.trans (hbf.mono hwi))
            obtain ⟨X, hX⟩ : ∃ X, X = wf.alloc (.cells #[.int .i64 ia, .string na, .slice ax la ay] 29) := ⟨_, rfl⟩
            have hbx := BoxN.new wf #[.int .i64 ia, .string na, .slice ax la ay] 29
            have hsx := (Below.refl wf.heap.size wf).alloc (Nat.le_refl _) (.cells #[.int .i64 ia, .string na, .slice ax la ay] 29)
            rw [← hX] at hbx hsx
            have HSX := hid hsx
            have HX0 := hid hbx
            have hxw := hsx.size
            have HBLf := hid (HBL.out.below hbf HBL.out.lt)
            have HBLx := hid (HBLf.out.below hsx HBLf.out.lt)
            have HR1 := hid (fun W (hW : Below X.heap.size X W) => ref03_Rows ia na (.slice ax la ay) ca w2.heap.size W (hua.keep fun p (hp : p.block < w2.heap.size) => ((hbf.trans (hsx.mono hwf)).trans (hW.mono (by omega))).cell (p := p) (by omega)) (by have := hW.size; omega))
            have HR2 := hid (fun W (hW : Below X.heap.size X W) => ref03_Rows il nl (.slice xl ll yl) cl w2.heap.size W (HRL2.out.keep fun p (hp : p.block < w2.heap.size) => ((hbf.trans (hsx.mono hwf)).trans (hW.mono (by omega))).cell (p := p) (by omega)) (by have := hW.size; omega))
            have s0 := fun p : LaterOf X => p.cell (hbx.cell 0 rfl)
            have s1 := fun p : LaterOf X => p.cell (hbx.cell 1 rfl)
            have s2 := fun p : LaterOf X => p.cell (hbx.cell 2 rfl)
            have t0 := fun p : LaterOf X => p.cell (HBLx.out.cell 0 rfl)
            have t1 := fun p : LaterOf X => p.cell (HBLx.out.cell 1 rfl)
            have t2 := fun p : LaterOf X => p.cell (HBLx.out.cell 2 rfl)
            have HC1 := hid (fun p : LaterOf X => later_call p (HR1.out p.W p.hb))
            have HC2 := hid (fun p : LaterOf X => later_call p (HR2.out p.W p.hb))
            have HUA := hid hua
            clear hbx hsx hua HR1 HR2 hz0
            go_upto_region 17 with fail
            rw [← hX]
            clear hX
            refine wp_region_later (by kernel_rfl) (by kernel_rfl) ?_
            repeat (first | go_big_quiet_step ((first | (go_at_call 19; with_reducible exact HC1.out _) | (go_at_call 19; with_reducible exact HC2.out _))) | quiet_step ((first | (go_at_call 19; with_reducible exact HC1.out _) | (go_at_call 19; with_reducible exact HC2.out _))))
            refine wpQuiet_nil ?_
            intro _ hw'
            obtain ⟨p5, hw''⟩ := hw'
            subst hw''
            have hb8 := p5.hb
            generalize p5.W = w8 at *
            have HB8 := hid (HBF.out.trans ((HSX.out.trans (hb8.mono hxw)).mono hwf))
            have HBF8 := hid (HSX.out.trans (hb8.mono hxw))
            have HBA8 := hid (HX0.out.below hb8 HX0.out.lt)
            have HBL8 := hid (HBLx.out.below hb8 HBLx.out.lt)
            clear hb8 p5 s0 s1 s2 t0 t1 t2 HC1 HC2
            have y0 := HBA8.out.cell 0 rfl
            have y1 := HBA8.out.cell 1 rfl
            have y2 := HBA8.out.cell 2 rfl
            have z0 := HBL8.out.cell 0 rfl
            have z1 := HBL8.out.cell 1 rfl
            have z2 := HBL8.out.cell 2 rfl
            have f0 := HBL8.out.frozen 0
            have f1 := HBL8.out.frozen 1
            have f2 := HBL8.out.frozen 2
            have HBX8 := HBX9.out.below ((HBI.out.trans (HB8.out.mono hwi))) HBX9.out.lt
            have b0 := HBX8.cell 0 rfl
            have hned : decide (ia = ib) = false := decide_eq_false hne
            have hbo := HBX9.out.lt
            have HREL : ∃ (xl : Option Addr) (yl : Nat), Hid (Below w9.heap.size w9 (((w8.setCell ⟨w9.heap.size, 0, none⟩ (.int .i64 ia)).setCell ⟨w9.heap.size, 1, none⟩ (.string na)).setCell ⟨w9.heap.size, 2, none⟩ (.slice ax la ay))) ∧ Hid (BoxN (((w8.setCell ⟨w9.heap.size, 0, none⟩ (.int .i64 ia)).setCell ⟨w9.heap.size, 1, none⟩ (.string na)).setCell ⟨w9.heap.size, 2, none⟩ (.slice ax la ay)) w9.heap.size 29 #[.int .i64 (((⟨ib, nb, cb⟩ : Ta) :: way).getD (p + 1) Ta.z).id, .string (((⟨ib, nb, cb⟩ : Ta) :: way).getD (p + 1) Ta.z).name, .slice xl (((⟨ib, nb, cb⟩ : Ta) :: way).getD (p + 1) Ta.z).cols.length yl]) ∧
                Hid (RdCo (((w8.setCell ⟨w9.heap.size, 0, none⟩ (.int .i64 ia)).setCell ⟨w9.heap.size, 1, none⟩ (.string na)).setCell ⟨w9.heap.size, 2, none⟩ (.slice ax la ay)) (· < w2.heap.size) (.slice xl (((⟨ib, nb, cb⟩ : Ta) :: way).getD (p + 1) Ta.z).cols.length yl) (((⟨ib, nb, cb⟩ : Ta) :: way).getD (p + 1) Ta.z).cols) ∧ Hid (Cnt (((⟨ib, nb, cb⟩ : Ta) :: way).getD (p + 1) Ta.z).cols) := by
              refine ⟨ax, ay, ?_⟩
              rw [HNX.out]
              simp only
              rw [← HLAE.out]
              refine ⟨hid ?_, hid ?_, hid ?_, HCA⟩
              · have h1 := HBI.out.trans (HB8.out.mono hwi)
                exact ((h1.setCell (p := ⟨w9.heap.size, 0, none⟩) (Nat.le_refl _) _).setCell (p := ⟨w9.heap.size, 1, none⟩) (Nat.le_refl _) _).setCell (p := ⟨w9.heap.size, 2, none⟩) (Nat.le_refl _) _
              · exact ((HBL8.out.set 0 _).set 1 _).set 2 _
              · refine HUA.out.keep fun q hq => ?_
                have hq' : q.block < w2.heap.size := hq
                have h2o := HB2o.out.size
                have h9 : q.block ≠ w9.heap.size := by omega
                rw [World.cell?_setCell_other _ _ _ _ (fun e => h9 (by rw [← e])), World.cell?_setCell_other _ _ _ _ (fun e => h9 (by rw [← e])), World.cell?_setCell_other _ _ _ _ (fun e => h9 (by rw [← e]))]
                exact HB8.out.cell (p := q) (by omega)
            rw [HE1.out, HE2.out]
            generalize cellsT (⟨ia, na, ca⟩ : Ta) = CA at *
            generalize cellsT (⟨il, nl, cl⟩ : Ta) = CL at *
            rcases hgr with hgr | ⟨rfl, hgr⟩
            · have c1 : ¬ (CA : Int) < (CL : Int) := by omega
              have c2 : ¬ (CA : Int) = (CL : Int) := by omega
              have d1 : decide ((CA : Int) < (CL : Int)) = false := decide_eq_false c1
              have d2 : decide ((CA : Int) = (CL : Int)) = false := decide_eq_false c2
              go_wp2
              go_roundg (gk - 1)
              case rel =>
                obtain ⟨xl', yl', HREL⟩ := HREL
                exact ⟨p + 1, xl', yl', by go_num, by omega, HREL⟩
              case measure => omega
            · have c1 : ¬ (CA : Int) < (CA : Int) := by omega
              have c3 : ¬ il ≤ ia := by omega
              have d1 : decide ((CA : Int) < (CA : Int)) = false := decide_eq_false c1
              have d3 : decide (il ≤ ia) = false := decide_eq_false c3
              go_wp2
              go_roundg (gk - 1)
              case rel =>
                obtain ⟨xl', yl', HREL⟩ := HREL
                exact ⟨p + 1, xl', yl', by go_num, by omega, HREL⟩
              case measure => omega
          · obtain rfl : gk = 0 := by omega
            obtain rfl : p = D := by omega
            have HLA2 := hid (HLAST.out)
            generalize hTL : ((⟨ib, nb, cb⟩ : Ta) :: way).getD p Ta.z = tl at *
            clear hTL
            obtain ⟨il, nl, cl⟩ := tl
            simp only at HBL HLA2
            have hlen := HBL.out.lt
            have HBXi := hid (HBX9.out.below HBI.out HBX9.out.lt)
            go_wp2_with fail
            go_loopg [107, 17] R (fun K i t wr => ∃ (q2 : Nat) (f : Bool), i = .int .i64 (q2 : Int) ∧ t = .bool f ∧ q2 + K = R ∧ Hid (Below wi.heap.size wi wr) ∧ Hid (f = true ↔ ∃ j, j < q2 ∧ RI.getD j 0 = il))
            case atStart => exact ⟨0, false, rfl, rfl, by omega, hid (Below.refl _ _), hid (by simp)⟩
            case round =>
              obtain ⟨q2, f, rfl, rfl, hq2, HB3i, HF⟩ := hrel
              obtain ⟨wj, rfl⟩ : ∃ wj, wj = wr := ⟨wr, rfl⟩
              have hwj := HB3i.out.size
              have HB5j := hid (HB.out.trans (((HB9.out.trans (HBI.out.mono hw9)).trans (HB3i.out.mono (by omega))).mono hwo))
              have z0 := (HBL.out.below HB3i.out hlen).cell 0 rfl
              by_cases hp3 : 0 < gk
              · have hqR : q2 < R := by omega
                have hqi2 : (q2 : Int) < (R : Int) := by omega
                obtain ⟨a3, c3, e3, h31, h32, h33⟩ := HRV.out wj HB5j.out
                obtain ⟨b3, o3, rfl, -, h34⟩ := h33 (by omega)
                obtain ⟨rfl, -, rfl⟩ := Value.slice.inj e3
                have hz3 := h34 q2 hqR 0 (by omega)
                have hR63 : R ≤ 9223372036854775807 := by unfold maxLen at h32; omega
                simp only [Nat.mul_one, Nat.add_zero, zF] at hz3
                have hget : ∀ j, j < q2 + 1 → (RI.getD j 0 = il ↔ (j < q2 ∧ RI.getD j 0 = il) ∨ (j = q2 ∧ RI.getD q2 0 = il)) := fun j hj => by
                  by_cases hjq : j = q2
                  · subst hjq; simp
                  · have : j < q2 := by omega
                    simp [hjq, this]
                have HGET := hid hget
                clear e3 h33 h34 hget
                generalize RI.getD q2 0 = x3 at *
                cases f
                · by_cases hx : x3 = il
                  · have hxd : decide (x3 = il) = true := decide_eq_true hx
                    go_wp2
                    go_roundg (gk - 1)
                    case rel => exact ⟨q2 + 1, true, by go_num, rfl, by omega, HB3i, hid ⟨fun _ => ⟨q2, by omega, (HGET.out q2 (by omega)).2 (.inr ⟨rfl, hx⟩)⟩, fun _ => rfl⟩⟩
                    case measure => omega
                  · have hxd : decide (x3 = il) = false := decide_eq_false hx
                    have hxb : (x3 == il) = false := beq_false_of_ne hx
                    go_wp2
                    go_roundg (gk - 1)
                    case rel => exact ⟨q2 + 1, false, by go_num, rfl, by omega, HB3i, hid ⟨fun h => absurd h (by simp), fun ⟨j, hj, e⟩ => by
                      rcases (HGET.out j hj).1 e with ⟨h1, h2⟩ | ⟨-, h2⟩
                      · exact HF.out.2 ⟨j, h1, h2⟩
                      · exact absurd h2 hx⟩⟩
                    case measure => omega
                · go_wp2
                  go_roundg (gk - 1)
                  case rel => exact ⟨q2 + 1, true, by go_num, rfl, by omega, HB3i, hid ⟨fun _ => by obtain ⟨j, h1, h2⟩ := HF.out.1 (by simp); exact ⟨j, by omega, h2⟩, fun _ => rfl⟩⟩
                  case measure => omega
              · obtain rfl : gk = 0 := by omega
                obtain rfl : q2 = R := by omega
                have hf : f = true := by
                  obtain ⟨j, hj, e⟩ := List.getElem_of_mem HLA2.out
                  exact HF.out.2 ⟨j, by have := HR.out; omega, by simp [List.getD, hj, e]⟩
                subst hf
                have hsum : IntKind.i64.wrap ((q2 : Int) + (M : Int)) = (N : Int) := by
                  have h1 := HRL.out
                  have h2 := HR.out
                  rw [show ((q2 : Int) + (M : Int)) = (N : Int) by omega]
                  exact IntWalk.i64_in _ (by omega)
                go_wp2
                go_roundg (go - 1)
                case rel => exact ⟨q + 1, by go_num, by omega, HB5j⟩
                case measure => omega
      · obtain rfl : go = 0 := by omega
        obtain rfl : N = q := by omega
        go_wp2_with fail
        with_reducible refine (HAW.out wo (HB2.out.trans (HB2o.out.mono HB2.out.size))).mono ?_
        rintro e w8 ⟨rfl, hb8⟩
        have HF := hid ((HB2.out.trans (HB2o.out.mono HB2.out.size)).trans (hb8.mono (HB2.out.trans (HB2o.out.mono HB2.out.size)).size))
        go_wp2
        go_ret
        exact ⟨rfl, HF.out⟩
  · have HLI := hid (kit_Light a n c w hnm)
    rw [decide_eq_false hg] at HLI
    go_enter Tryz.func7, Tryz.ntmps7
    go_wp2_with fail
    with_reducible refine HLI.out.mono ?_
    rintro e w0 ⟨rfl, rfl⟩
    go_wp2_with fail
    with_reducible refine (HAW.out w (Below.refl _ _)).mono ?_
    rintro e w4 ⟨rfl, hb4⟩
    go_wp2
    go_ret
    exact ⟨rfl, hb4⟩
end Go.Proofs.YtfmlpaplnkohpaaGreatDoor
