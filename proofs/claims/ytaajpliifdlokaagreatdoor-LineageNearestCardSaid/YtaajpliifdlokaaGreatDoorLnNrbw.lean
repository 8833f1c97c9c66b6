/- The walk of LineageNearest: links are those to the nearest tables. -/
import Derived.Deep.Cut
import Derived.Test.YtaajpliifdlokaaGreatDoorLnNrbv
set_option linter.unusedVariables false
set_option linter.unusedSimpArgs false
namespace Go.Proofs.YtaajpliifdlokaaGreatDoor
open Go.RowKit
set_option maxRecDepth 100000 in
set_option maxHeartbeats 8000000 in
theorem law39_nearest (a : Option Addr) (n c : Nat) (w : World) (hA : RdI w w.heap.size a n c) (hT : Tabs w) (hP : Pow w) :
  Calls Tryz.prog 7 #[.slice a n c] w (Ret w (.bool true)) := by
 have HA := hid hA
 have HT := hid hT
 have HP := hid hP
 have hnm : n ≤ maxLen := Nat.le_trans hA.1 hA.2.1
 have HAW := hid (fun W (hW : Below w.heap.size w W) => law39_awake W (hT.below hW))
 clear hA hT hP
 by_cases hg : n ≤ 500
 ·have HLI := hid (kit_Light a n c w hnm)
  rw [decide_eq_true hg] at HLI
  go_enter Tryz.func7, Tryz.ntmps7
  generalize hLA : Code.loop _ = LA
  go_wp2_with fail
  with_reducible refine HLI.out.mono ?_
  rintro e w0 ⟨rfl, rfl⟩
  clear HLI
  go_wp2_with fail
  with_reducible refine (kit_Roll a n c _ HA.out hg HP.out).mono ?_
  rintro e w1 ⟨rfl, hd1, hb1⟩
  have hz1 := hd1.lt
  have HB1 := hid hb1
  have HFA := hid (law39_family w.heap.size w1 hd1 ⟨w, HT.out, Nat.le_refl _, hb1⟩)
  clear hd1 hb1
  go_wp2_with fail
  with_reducible refine HFA.out.mono ?_
  rintro e w2 ⟨k, ts, v, rfl, hok, hl3, hl4, hids, hfq, hv, -, hr2⟩
  have hlist := fam_list hl4 hids hfq
  have hfew : ∀ t ∈ ts, Few t.cols := fun t ht => fam_few hok (hfq t ht)
  have HB2 := hid (HB1.out.trans (hr2.below (B' := w.heap.size) (Nat.le_refl _) (by omega)))
  have hv2 := hv.more (S' := (· < w2.heap.size)) fun b hb => hb.2
  have HV := hid (fun W (hW : Below w2.heap.size w2 W) => hv2.keep (w' := W) fun p (hp : p.block < w2.heap.size) => hW.cell (p := p) hp)
  have HLI2 := hid (lin_Links ts v w2.heap.size w2 hlist hfew hv2 (Nat.le_refl _) (HT.out.below HB2.out))
  have HLIST := hid hlist
  have HFEW := hid hfew
  have HLL : Hid ((linksL ts).length ≤ ts.length) := hid (List.length_filterMap_le _ _)
  have HNEAR := hid (fun (b : Ta) (x : Lk) (hb : b ∈ ts) (h : LastL (linksL ts) (linksL ts).length b.id x) => last_near hlist.2.2 (fun t ht => by
   obtain ⟨i, hi, rfl⟩ := List.getElem_of_mem ht
   have h1 := hids i hi
   simp [List.getD, hi] at h1
   omega) hb h)
  have hlt : ts.length ≤ 4 := hl4
  obtain ⟨va, vc, rfl⟩ : ∃ x y, v = .slice x ts.length y := by
   obtain ⟨tv, ⟨x, y, e, -⟩, -⟩ := hv
   exact ⟨x, y, e⟩
  clear hv hv2 hr2 hids hfq hok hfew hlist HFA
  obtain ⟨N, hN⟩ : ∃ N, N = ts.length := ⟨_, rfl⟩
  rw [← hN] at HV HLI2 hlt HLL
  rw [← hN]
  have HN := hid hN.symm
  clear hN hl3 hl4
  go_wp2_with fail
  with_reducible refine HLI2.out.mono ?_
  rintro e w3 ⟨u, rfl, hu, hb3⟩
  have HB3 := hid hb3
  have HB03 := hid (HB2.out.trans (hb3.mono HB2.out.size))
  have hu3 := hu.more (S' := (· < w3.heap.size)) fun b hb => hb.2
  have HU := hid (fun W (hW : Below w3.heap.size w3 W) => hu3.keep (w' := W) fun p (hp : p.block < w3.heap.size) => hW.cell (p := p) hp)
  have HV3 := hid (fun W (hW : Below w3.heap.size w3 W) => HV.out W (hb3.trans (hW.mono hb3.size)))
  have hz3 := hb3.size
  obtain ⟨ua, uc, rfl, -, -⟩ := rdLk_len hu
  obtain ⟨M, hM⟩ : ∃ M, M = (linksL ts).length := ⟨_, rfl⟩
  rw [← hM] at HU HLL HNEAR
  rw [← hM]
  have HM := hid hM.symm
  clear hM hu hu3 hb3 HLI2
  go_wp2_with fail
  subst hLA
  go_loopg [36] N (fun K i wr => ∃ q : Nat, i = .int .i64 (q : Int) ∧ q + K = N ∧ Hid (Below w3.heap.size w3 wr))
  case atStart => exact ⟨0, rfl, by omega, hid (Below.refl _ _)⟩
  case round =>
   obtain ⟨q, rfl, hq, HB⟩ := hrel
   obtain ⟨wo, rfl⟩ : ∃ wo, wo = wr := ⟨wr, rfl⟩
   obtain ⟨go, rfl⟩ : ∃ go, go = gk := ⟨gk, rfl⟩
   have hwo := HB.out.size
   by_cases hp : 0 < go
   ·have hqN : q < N := by omega
    have hqi : (q : Int) < (N : Int) := by omega
    obtain ⟨b, o, c3, xb, yb, e3, hb, hrb, k0, k1, k2⟩ := ta_at (HV3.out wo HB.out) (q := q) (by rw [HN.out]; exact hqN)
    rw [HN.out] at e3
    obtain ⟨rfl, -, rfl⟩ := Value.slice.inj e3
    have hbm : ts.getD q Ta.z ∈ ts := getD_mem (by rw [HN.out]; exact hqN) _
    have HNB := hid (fun x h => HNEAR.out _ x hbm h)
    have HVB := hid (HLIST.out.2.1 _ hbm)
    have HMB := hid hbm
    have HRB := hid (fun W (hW : Below wo.heap.size wo W) => (hrb.keep (w' := W) fun p (hp : p.block < w2.heap.size) => hW.cell (p := p) (by omega)))
    clear e3 hb hrb hbm
    generalize ts.getD q Ta.z = tb at *
    obtain ⟨ib, nb, cb⟩ := tb
    simp only at k0 k1 k2 HRB HNB
    have hcnb := cnt_mul (t := ⟨ib, nb, cb⟩) HVB.out.cnt
    simp only at hcnb
    obtain ⟨lb, hlb⟩ : ∃ lb, lb = cb.length := ⟨_, rfl⟩
    rw [← hlb] at k2 HRB hcnb
    have HLB := hid hlb.symm
    have HCNB := hid hcnb
    clear hlb hcnb
    have hbx := BoxN.new wo #[.int .i64 ib, .string nb, .slice xb lb yb] 51
    have hsx := (Below.refl wo.heap.size wo).alloc (Nat.le_refl _) (.cells #[.int .i64 ib, .string nb, .slice xb lb yb] 51)
    obtain ⟨X, hX⟩ : ∃ W, W = wo.alloc (.cells #[.int .i64 ib, .string nb, .slice xb lb yb] 51) := ⟨_, rfl⟩
    rw [← hX] at hbx hsx
    have HBX := hid (fun W (hW : Below X.heap.size X W) => hbx.below hW hbx.lt)
    have HSX := hid hsx
    have hbl := hbx.lt
    have hw8 := hsx.size
    have HR1 := hid (fun W (hW : Below X.heap.size X W) => ref03_Rows ib nb (.slice xb lb yb) cb w2.heap.size W (HRB.out W (hsx.trans (hW.mono hw8))) (by have := hW.size; omega))
    have s0 := fun p : LaterOf X => p.cell (hbx.cell 0 rfl)
    have s1 := fun p : LaterOf X => p.cell (hbx.cell 1 rfl)
    have s2 := fun p : LaterOf X => p.cell (hbx.cell 2 rfl)
    have HC1 := hid (fun p : LaterOf X => later_call p (HR1.out p.W p.hb))
    clear hbx hsx
    generalize hLB : Code.loop _ = LB
    go_upto_region 10 with fail
    rw [← hX]
    clear hX k0 k1 k2
    refine wp_region_later (by kernel_rfl) (by kernel_rfl) ?_
    repeat (first | go_big_quiet_step ((go_at_call 31; with_reducible exact HC1.out _)) | quiet_step ((go_at_call 31; with_reducible exact HC1.out _)))
    refine wpQuiet_nil ?_
    intro _ hw'
    obtain ⟨p5, hw''⟩ := hw'
    subst hw''
    have hb8 := p5.hb
    generalize p5.W = w8 at *
    have HB8 := hid hb8
    have hz8 := hb8.size
    clear hb8 p5 s0 s1 s2 HC1 HR1
    rw [HCNB.out]
    obtain ⟨CB, hCB⟩ : ∃ CB, CB = cellsT (⟨ib, nb, cb⟩ : Ta) := ⟨_, rfl⟩
    rw [← hCB]
    have HCB := hid hCB.symm
    clear hCB
    have HL9 : Hid (BoxN (w8.alloc (.cells #[.int .i64 0, .int .i64 0, .slice none 0 0] 76)) w8.heap.size 76 #[.int .i64 0, .int .i64 0, .slice none 0 0]) := hid (BoxN.new w8 _ _)
    have HS9 := hid ((Below.refl w8.heap.size w8).alloc (Nat.le_refl _) (.cells #[.int .i64 0, .int .i64 0, .slice none 0 0] 76))
    go_wp2_with fail
    generalize w8.alloc (.cells #[.int .i64 0, .int .i64 0, .slice none 0 0] 76) = W9 at *
    subst hLB
    go_loopg [48] M (fun K i wr => ∃ (r : Nat) (x : Lk) (xa : Option Addr) (xc : Nat), i = .int .i64 (r : Int) ∧ r + K = M ∧ Hid (Below w8.heap.size w8 wr) ∧ Hid (BoxN wr w8.heap.size 76 #[.int .i64 x.src, .int .i64 x.dst, .slice xa x.ops.length xc]) ∧ Hid (LastL (linksL ts) r ib x))
    case atStart => exact ⟨0, Lk.z, none, 0, rfl, by omega, HS9, HL9, hid (.inl ⟨rfl, fun j hj => absurd hj (by omega)⟩)⟩
    case round =>
     obtain ⟨r, x, xa, xc, rfl, hr, HB2, HX, HLAST⟩ := hrel
     have HBX8 := hid (HB8.out.trans (HB2.out.mono hz8))
     have HB3r := hid (HB.out.trans ((HSX.out.trans (HBX8.out.mono hw8)).mono hwo))
     have hb2s := HB2.out.size
     have hxl := HX.out.lt
     have hbx8s := HBX8.out.size
     have hM4 : M ≤ 4 := by have := HLL.out; omega
     by_cases hp2 : 0 < gk
     ·have hrM : r < M := by omega
      have hri : (r : Int) < (M : Int) := by omega
      obtain ⟨bl, ol, cl, ul, e4, hbl4, hpo, z0, z1, z2⟩ := lk_at (HU.out wr HB3r.out) (q := r) (by rw [HM.out]; exact hrM)
      rw [HM.out] at e4
      obtain ⟨rfl, -, rfl⟩ := Value.slice.inj e4
      obtain ⟨la, lc, rfl⟩ := rdPo_len hpo
      have HYS : Hid (((linksL ts).getD r Lk.z).dst = ib → LastL (linksL ts) (r + 1) ib ((linksL ts).getD r Lk.z)) := hid (fun h => .inr ⟨r, by omega, rfl, h⟩)
      have HYN : Hid (((linksL ts).getD r Lk.z).dst ≠ ib → LastL (linksL ts) (r + 1) ib x) := hid (fun h => by
       rcases HLAST.out with ⟨h1, h2⟩ | ⟨j, h1, h2, h3⟩
       ·refine .inl ⟨h1, fun j hj => ?_⟩
        by_cases e : j = r
        ·rw [e]; exact h
        ·exact h2 j (by omega)
       ·exact .inr ⟨j, by omega, h2, h3⟩)
      clear e4 hpo hbl4
      generalize (linksL ts).getD r Lk.z = y at *
      obtain ⟨ys, yd, yo⟩ := y
      simp only at z0 z1 z2
      have HB2a := hid (HB2.out.alloc hb2s (.cells #[.int .i64 ys, .int .i64 yd, .slice la yo.length lc] 76))
      have HXa := hid (HX.out.alloc (.cells #[.int .i64 ys, .int .i64 yd, .slice la yo.length lc] 76))
      have HIa := hid ((HBX.out wr HBX8.out).alloc (.cells #[.int .i64 ys, .int .i64 yd, .slice la yo.length lc] 76))
      simp only at HYS HYN
      obtain ⟨yl, hyl⟩ : ∃ yl, yl = yo.length := ⟨_, rfl⟩
      have HYL := hid hyl
      rw [← hyl] at HB2a HXa HIa z2
      clear hyl
      by_cases hyd : yd = ib
      ·obtain rfl : yd = ib := hyd
       have i0 := HIa.out.cell 0 rfl
       have x0 := HX.out.cell 0 rfl
       have x1 := HX.out.cell 1 rfl
       have x2 := HX.out.cell 2 rfl
       have f0 := HX.out.frozen 0
       have f1 := HX.out.frozen 1
       have f2 := HX.out.frozen 2
       go_wp2_with fail
       go_roundg (gk - 1)
       case rel => exact ⟨r + 1, ⟨ys, yd, yo⟩, la, lc, by go_num, by omega, hid ((((HB2.out.setCell (p := ⟨w8.heap.size, 0, none⟩) (Nat.le_refl _) _).setCell (p := ⟨w8.heap.size, 1, none⟩) (Nat.le_refl _) _).setCell (p := ⟨w8.heap.size, 2, none⟩) (Nat.le_refl _) _).alloc (by simpa using hb2s) _), hid (by have h := (((HX.out.set 0 (.int .i64 ys)).set 1 (.int .i64 yd)).set 2 (.slice la yl lc)).alloc (.cells #[.int .i64 ys, .int .i64 yd, .slice la yl lc] 76); rw [HYL.out] at h ⊢; exact h), hid (by first | exact HYS.out rfl | exact HYS.out trivial)⟩
       case measure => omega
      ·have hyb : decide (yd = ib) = false := decide_eq_false hyd
       have i0 := HIa.out.cell 0 rfl
       have hye : (yd == ib) = false := beq_false_of_ne hyd
       go_wp2_with fail
       go_roundg (gk - 1)
       case rel => exact ⟨r + 1, x, xa, xc, by go_num, by omega, HB2a, HXa, hid (HYN.out hyd)⟩
       case measure => omega
     ·obtain rfl : gk = 0 := by omega
      obtain rfl : r = M := by omega
      obtain ⟨wl, rfl⟩ : ∃ W, W = wr := ⟨wr, rfl⟩
      have x0 := HX.out.cell 0 rfl
      have HV9 := hid (HV3.out wl HB3r.out)
      have h9s := HB3r.out.size
      rcases HNB.out x HLAST.out with ⟨rfl, hno, hnone⟩ | ⟨hdst, a0, ha0, hsrc, hnear⟩
      ·have HNONE := hid hnone
       have HFI := hid (ref_FindN (.slice (some ⟨b, o, none⟩) N vc) ts w2.heap.size (Lk.z).src wl (fun j hj => hno _ (getD_mem hj Ta.z)) (by rw [HN.out]; omega) (by rw [HN.out]; omega) HV9.out (by omega))
       have hcn0 : wrap64 (((0 : Nat) : Int) * (0 : Int)) = (0 : Int) := by unfold wrap64; omega
       have HFR : Hid (∀ W, Below wl.heap.size wl W → Calls Tryz.prog 31 #[.agg #[.int .i64 0, .string ⟨#[]⟩, .slice none 0 0]] W (Ret W (.int .i64 (0 : Int)))) := hid (fun W hW => ref03_Rows 0 ⟨#[]⟩ (.slice none 0 0) [] w2.heap.size W ⟨fun _ => .bool false, InK.nil, fun i hi => absurd hi (by simp)⟩ (by have := hW.size; omega))
       clear hno hnone HLAST
       simp only [Lk.z] at x0 HFI HX
       go_wp2_with fail
       with_reducible refine HFI.out.mono ?_
       rintro e wf ⟨rfl, hbf⟩
       have HBFf := hid hbf
       have hwf := hbf.size
       obtain ⟨Y, hY⟩ : ∃ W, W = wf.alloc (.cells #[.int .i64 0, .string ⟨#[]⟩, .slice none 0 0] 51) := ⟨_, rfl⟩
       have hby := BoxN.new wf #[.int .i64 0, .string ⟨#[]⟩, .slice none 0 0] 51
       have hsy := (Below.refl wf.heap.size wf).alloc (Nat.le_refl _) (.cells #[.int .i64 0, .string ⟨#[]⟩, .slice none 0 0] 51)
       rw [← hY] at hby hsy
       have HFB := hid (fun W (hW : Below Y.heap.size Y W) => hby.below hW hby.lt)
       have HSY := hid (hbf.trans (hsy.mono hwf))
       have hyz := HSY.out.size
       have hyl := hby.lt
       have HXY := hid (HX.out.below HSY.out HX.out.lt)
       have xd := HXY.out.cell 1 rfl
       have ibd := (HBX.out Y (HBX8.out.trans (HSY.out.mono HBX8.out.size))).cell 0 rfl
       rw [hY] at xd ibd
       have g0 := fun p : LaterOf Y => p.cell (hby.cell 0 rfl)
       have g1 := fun p : LaterOf Y => p.cell (hby.cell 1 rfl)
       have g2 := fun p : LaterOf Y => p.cell (hby.cell 2 rfl)
       have HCF := hid (fun p : LaterOf Y => later_call p (HFR.out p.W (HSY.out.trans (p.hb.mono hyz))))
       clear hbf hby hsy
       go_upto_region 20 with fail
       rw [← hY]
       clear hY xd ibd
       refine wp_region_later (by kernel_rfl) (by kernel_rfl) ?_
       repeat (first | go_big_quiet_step ((go_at_call 31; with_reducible exact HCF.out _)) | quiet_step ((go_at_call 31; with_reducible exact HCF.out _)))
       refine wpQuiet_nil ?_
       intro _ hw'
       obtain ⟨p6, hw''⟩ := hw'
       subst hw''
       have hb10 := p6.hb
       generalize p6.W = w10 at *
       have HB10 := hid hb10
       have hz10 := hb10.size
       have HB10r := hid (HSY.out.trans (hb10.mono hyz))
       clear hb10 p6 g0 g1 g2 HCF
       try rw [hcn0]
       go_wp2_with fail
       go_loopg [82] N (fun K i wr => ∃ s : Nat, i = .int .i64 (s : Int) ∧ s + K = N ∧ Hid (Below w10.heap.size w10 wr))
       case atStart => exact ⟨0, rfl, by omega, hid (Below.refl _ _)⟩
       case round =>
        obtain ⟨s, rfl, hs, HB5⟩ := hrel
        obtain ⟨wi, rfl⟩ : ∃ W, W = wr := ⟨wr, rfl⟩
        have hwi := HB5.out.size
        have HBli := hid (HB10r.out.trans (HB5.out.mono HB10r.out.size))
        have HBYi := hid (HB10.out.trans (HB5.out.mono hz10))
        have HBXi := hid (HBX8.out.trans (HBli.out.mono HBX8.out.size))
        have HB3i := hid (HB3r.out.trans (HBli.out.mono HB3r.out.size))
        have h3i := HB3i.out.size
        have hxi := HBXi.out.size
        have hyi := HBYi.out.size
        have hli := HBli.out.size
        by_cases hp3 : 0 < gk
        ·have hsN : s < N := by omega
         have hsi : (s : Int) < (N : Int) := by omega
         obtain ⟨b', o', c', xa', ya', e5, hb', hra, k0, k1, k2⟩ := ta_at (HV3.out wi HB3i.out) (q := s) (by rw [HN.out]; exact hsN)
         rw [HN.out] at e5
         obtain ⟨e6, -, rfl⟩ := Value.slice.inj e5
         obtain ⟨rfl, rfl⟩ : b = b' ∧ o = o' := by simpa using e6
         have ham : ts.getD s Ta.z ∈ ts := getD_mem (by rw [HN.out]; exact hsN) _
         have HMA := hid ham
         have HVA := hid (HLIST.out.2.1 _ ham)
         have HFA := hid (HFEW.out _ ham)
         have HRA := hid (fun W (hW : Below wi.heap.size wi W) => (hra.keep (w' := W) fun p (hp : p.block < w2.heap.size) => hW.cell (p := p) (by omega)))
         clear e5 e6 hb' hra ham
         generalize ts.getD s Ta.z = ta at *
         obtain ⟨ia, na, ca⟩ := ta
         simp only at k0 k1 k2 HRA HFA
         have hcna := cnt_mul (t := ⟨ia, na, ca⟩) HVA.out.cnt
         simp only at hcna
         obtain ⟨la, hla⟩ : ∃ la, la = ca.length := ⟨_, rfl⟩
         rw [← hla] at k2 HRA hcna
         obtain ⟨CA, hCA⟩ : ∃ CA, CA = cellsT (⟨ia, na, ca⟩ : Ta) := ⟨_, rfl⟩
         rw [← hCA] at hcna
         have HCA := hid hCA.symm
         have HCNA := hid hcna
         clear hla hCA hcna
         have hbx := BoxN.new wi #[.int .i64 ia, .string na, .slice xa' la ya'] 51
         have hsx := (Below.refl wi.heap.size wi).alloc (Nat.le_refl _) (.cells #[.int .i64 ia, .string na, .slice xa' la ya'] 51)
         obtain ⟨X2, hX2⟩ : ∃ W, W = wi.alloc (.cells #[.int .i64 ia, .string na, .slice xa' la ya'] 51) := ⟨_, rfl⟩
         rw [← hX2] at hbx hsx
         have HAX := hid (fun W (hW : Below X2.heap.size X2 W) => hbx.below hW hbx.lt)
         have HSX2 := hid hsx
         have hbl2 := hbx.lt
         have hw82 := hsx.size
         have HR3 := hid (fun W (hW : Below X2.heap.size X2 W) => ref03_Rows ia na (.slice xa' la ya') ca w2.heap.size W (HRA.out W (hsx.trans (hW.mono hw82))) (by have := hW.size; omega))
         have s0 := fun p : LaterOf X2 => p.cell (hbx.cell 0 rfl)
         have s1 := fun p : LaterOf X2 => p.cell (hbx.cell 1 rfl)
         have s2 := fun p : LaterOf X2 => p.cell (hbx.cell 2 rfl)
         have HC3 := hid (fun p : LaterOf X2 => later_call p (HR3.out p.W p.hb))
         clear hbx hsx
         go_upto_region 24 with fail
         rw [← hX2]
         clear hX2 k0 k1 k2
         refine wp_region_later (by kernel_rfl) (by kernel_rfl) ?_
         repeat (first | go_big_quiet_step ((go_at_call 31; with_reducible exact HC3.out _)) | quiet_step ((go_at_call 31; with_reducible exact HC3.out _)))
         refine wpQuiet_nil ?_
         intro _ hw'
         obtain ⟨p7, hw''⟩ := hw'
         subst hw''
         have hb11 := p7.hb
         generalize p7.W = w11 at *
         have HB11 := hid hb11
         have hz11 := hb11.size
         clear hb11 p7 s0 s1 s2 HC3 HR3
         rw [HCNA.out]
         have HBi11 := hid (HSX2.out.trans (HB11.out.mono hw82))
         have HBX11 := hid (HBXi.out.trans (HBi11.out.mono hxi))
         have HB311 := hid (HB3i.out.trans (HBi11.out.mono h3i))
         have HFD := hid (ref38_Find ia ib na nb (.slice xa' la ya') (.slice xb lb yb) ca cb w11 HVA.out HVB.out HFA.out ((HRA.out w11 HBi11.out).more fun b (hb : b < w2.heap.size) => by have := HBi11.out.size; show b < w11.heap.size; omega) ((HRB.out w11 (HSX.out.trans (HBX11.out.mono hw8))).more fun b (hb : b < w2.heap.size) => by have := HBi11.out.size; show b < w11.heap.size; omega) (HT.out.below (HB03.out.trans (HB311.out.mono HB03.out.size))))
         have s0 := (HAX.out w11 HB11.out).cell 0 rfl
         have s1 := (HAX.out w11 HB11.out).cell 1 rfl
         have s2 := (HAX.out w11 HB11.out).cell 2 rfl
         have t0 := (HBX.out w11 HBX11.out).cell 0 rfl
         have t1 := (HBX.out w11 HBX11.out).cell 1 rfl
         have t2 := (HBX.out w11 HBX11.out).cell 2 rfl
         go_wp2_with fail
         clear s0 s1 s2 t0 t1 t2
         with_reducible refine HFD.out.mono ?_
         rintro e w12 ⟨oa, on, oc, ok, rfl, hb12, hfd⟩
         have HBi12 := hid (HBi11.out.trans (hb12.mono HBi11.out.size))
         have HFOUND := hid hfd
         have HBX12 := hid (HBXi.out.trans (HBi12.out.mono hxi))
         have HBF := hid (HB5.out.trans (HBi12.out.mono hwi))
         have s0 := (HAX.out w12 (HB11.out.trans (hb12.mono hz11))).cell 0 rfl
         have t0 := (HBX.out w12 HBX12.out).cell 0 rfl
         have l2 := (HX.out.below (HBli.out.trans (HBi12.out.mono hli)) HX.out.lt).cell 2 rfl
         have u0 := (HFB.out w12 (HBYi.out.trans (HBi12.out.mono hyi))).cell 0 rfl
         clear hb12 hfd HFD
         by_cases he1 : ia = ib
         ·have he1d : decide (ia = ib) = true := decide_eq_true he1
          have he1b : (ia == ib) = true := beq_iff_eq.2 he1
          go_wp2_with fail
          go_roundg (gk - 1)
          case rel => exact ⟨s + 1, by go_num, by omega, HBF⟩
          case measure => omega
         ·have he1d : decide (ia = ib) = false := decide_eq_false he1
          have he1b : (ia == ib) = false := beq_false_of_ne he1
          cases ok with
          | false =>
           go_wp2_with fail
           go_roundg (gk - 1)
           case rel => exact ⟨s + 1, by go_num, by omega, HBF⟩
           case measure => omega
          | true =>
           by_cases he2 : (CA : Int) < (CB : Int)
           ·have he2d : decide ((CA : Int) < (CB : Int)) = true := decide_eq_true he2
            go_wp2_with fail
            go_roundg (gk - 1)
            case rel => exact ⟨s + 1, by go_num, by omega, HBF⟩
            case measure => omega
           ·have he2d : decide ((CA : Int) < (CB : Int)) = false := decide_eq_false he2
            by_cases he4 : (CA : Int) = (CB : Int) ∧ ib < ia
            ·obtain ⟨he3, he4⟩ := he4
             have he4c : ¬ ia ≤ ib := by omega
             have he3d : decide ((CA : Int) = (CB : Int)) = true := decide_eq_true he3
             have he3b : ((CA : Int) == (CB : Int)) = true := beq_iff_eq.2 he3
             have he4d : decide (ib < ia) = true := decide_eq_true he4
             go_wp2_with fail
             go_roundg (gk - 1)
             case rel => exact ⟨s + 1, by go_num, by omega, HBF⟩
             case measure => omega
            ·obtain ⟨l, hl, hll⟩ := HFOUND.out rfl
             have hgr : grT ⟨ia, na, ca⟩ ⟨ib, nb, cb⟩ = true := by
              rw [grT_iff, HCA.out, HCB.out]
              show CB < CA ∨ (CA = CB ∧ ia < ib)
              omega
             exact absurd hl (by rw [HNONE.out _ HMA.out hgr]; simp)
        ·obtain rfl : gk = 0 := by omega
         obtain rfl : s = N := by omega
         go_wp2_with fail
         go_roundg (go - 1)
         case rel => exact ⟨q + 1, by go_num, by omega, HB3i⟩
         case measure => omega
      ·have HNEAR2 := hid hnear
       have HFI := hid (find_memR HLIST.out HV9.out (by omega) ha0)
       have HC0 := hid (HLIST.out.2.1 _ ha0)
       rw [hsrc] at HFI
       clear hnear ha0 HLAST
       obtain ⟨i0, n0, c0⟩ := a0
       simp only at hsrc
       subst hsrc
       have x1 := HX.out.cell 1 rfl
       have hxd : decide (x.dst = ib) = true := decide_eq_true hdst
       go_wp2_with fail
       with_reducible refine HFI.out.mono ?_
       rintro e wf ⟨uf, rfl, huf, hbf⟩
       simp only at huf ⊢
       obtain ⟨fa, fc, rfl⟩ := rdCo_len huf
       have hcn0 := cnt_mul (t := ⟨x.src, n0, c0⟩) HC0.out.cnt
       simp only at hcn0
       obtain ⟨fl, hfl⟩ : ∃ fl, fl = c0.length := ⟨_, rfl⟩
       rw [← hfl] at huf hcn0 ⊢
       obtain ⟨CF, hCF⟩ : ∃ CF, CF = cellsT (⟨x.src, n0, c0⟩ : Ta) := ⟨_, rfl⟩
       rw [← hCF] at hcn0
       rw [← hCF] at HNEAR2
       have HUF := hid (fun W (hW : Below wl.heap.size wl W) => huf.keep (w' := W) fun p (hp : p.block < w2.heap.size) => hW.cell (p := p) (by omega))
       clear hfl hCF huf HFI
       have HFR : Hid (∀ W, Below wl.heap.size wl W → Calls Tryz.prog 31 #[.agg #[.int .i64 x.src, .string n0, .slice fa fl fc]] W (Ret W (.int .i64 (rowsC c0 : Int)))) := hid (fun W hW => ref03_Rows x.src n0 (.slice fa fl fc) c0 w2.heap.size W (HUF.out W hW) (by have := hW.size; omega))
       generalize x.src = i0 at *
       have HBFf := hid hbf
       have hwf := hbf.size
       obtain ⟨Y, hY⟩ : ∃ W, W = wf.alloc (.cells #[.int .i64 i0, .string n0, .slice fa fl fc] 51) := ⟨_, rfl⟩
       have hby := BoxN.new wf #[.int .i64 i0, .string n0, .slice fa fl fc] 51
       have hsy := (Below.refl wf.heap.size wf).alloc (Nat.le_refl _) (.cells #[.int .i64 i0, .string n0, .slice fa fl fc] 51)
       rw [← hY] at hby hsy
       have HFB := hid (fun W (hW : Below Y.heap.size Y W) => hby.below hW hby.lt)
       have HSY := hid (hbf.trans (hsy.mono hwf))
       have hyz := HSY.out.size
       have hyl := hby.lt
       have HXY := hid (HX.out.below HSY.out HX.out.lt)
       have xd := HXY.out.cell 1 rfl
       have ibd := (HBX.out Y (HBX8.out.trans (HSY.out.mono HBX8.out.size))).cell 0 rfl
       rw [hY] at xd ibd
       have g0 := fun p : LaterOf Y => p.cell (hby.cell 0 rfl)
       have g1 := fun p : LaterOf Y => p.cell (hby.cell 1 rfl)
       have g2 := fun p : LaterOf Y => p.cell (hby.cell 2 rfl)
       have HCF := hid (fun p : LaterOf Y => later_call p (HFR.out p.W (HSY.out.trans (p.hb.mono hyz))))
       clear hbf hby hsy
       go_upto_region 20 with fail
       rw [← hY]
       clear hY xd ibd
       refine wp_region_later (by kernel_rfl) (by kernel_rfl) ?_
       repeat (first | go_big_quiet_step ((go_at_call 31; with_reducible exact HCF.out _)) | quiet_step ((go_at_call 31; with_reducible exact HCF.out _)))
       refine wpQuiet_nil ?_
       intro _ hw'
       obtain ⟨p6, hw''⟩ := hw'
       subst hw''
       have hb10 := p6.hb
       generalize p6.W = w10 at *
       have HB10 := hid hb10
       have hz10 := hb10.size
       have HB10r := hid (HSY.out.trans (hb10.mono hyz))
       clear hb10 p6 g0 g1 g2 HCF
       try rw [hcn0]
       go_wp2_with fail
       go_loopg [82] N (fun K i wr => ∃ s : Nat, i = .int .i64 (s : Int) ∧ s + K = N ∧ Hid (Below w10.heap.size w10 wr))
       case atStart => exact ⟨0, rfl, by omega, hid (Below.refl _ _)⟩
       case round =>
        obtain ⟨s, rfl, hs, HB5⟩ := hrel
        obtain ⟨wi, rfl⟩ : ∃ W, W = wr := ⟨wr, rfl⟩
        have hwi := HB5.out.size
        have HBli := hid (HB10r.out.trans (HB5.out.mono HB10r.out.size))
        have HBYi := hid (HB10.out.trans (HB5.out.mono hz10))
        have HBXi := hid (HBX8.out.trans (HBli.out.mono HBX8.out.size))
        have HB3i := hid (HB3r.out.trans (HBli.out.mono HB3r.out.size))
        have h3i := HB3i.out.size
        have hxi := HBXi.out.size
        have hyi := HBYi.out.size
        have hli := HBli.out.size
        by_cases hp3 : 0 < gk
        ·have hsN : s < N := by omega
         have hsi : (s : Int) < (N : Int) := by omega
         obtain ⟨b', o', c', xa', ya', e5, hb', hra, k0, k1, k2⟩ := ta_at (HV3.out wi HB3i.out) (q := s) (by rw [HN.out]; exact hsN)
         rw [HN.out] at e5
         obtain ⟨e6, -, rfl⟩ := Value.slice.inj e5
         obtain ⟨rfl, rfl⟩ : b = b' ∧ o = o' := by simpa using e6
         have ham : ts.getD s Ta.z ∈ ts := getD_mem (by rw [HN.out]; exact hsN) _
         have HMA := hid ham
         have HVA := hid (HLIST.out.2.1 _ ham)
         have HFA := hid (HFEW.out _ ham)
         have HRA := hid (fun W (hW : Below wi.heap.size wi W) => (hra.keep (w' := W) fun p (hp : p.block < w2.heap.size) => hW.cell (p := p) (by omega)))
         clear e5 e6 hb' hra ham
         generalize ts.getD s Ta.z = ta at *
         obtain ⟨ia, na, ca⟩ := ta
         simp only at k0 k1 k2 HRA HFA
         have hcna := cnt_mul (t := ⟨ia, na, ca⟩) HVA.out.cnt
         simp only at hcna
         obtain ⟨la, hla⟩ : ∃ la, la = ca.length := ⟨_, rfl⟩
         rw [← hla] at k2 HRA hcna
         obtain ⟨CA, hCA⟩ : ∃ CA, CA = cellsT (⟨ia, na, ca⟩ : Ta) := ⟨_, rfl⟩
         rw [← hCA] at hcna
         have HCA := hid hCA.symm
         have HCNA := hid hcna
         clear hla hCA hcna
         have hbx := BoxN.new wi #[.int .i64 ia, .string na, .slice xa' la ya'] 51
         have hsx := (Below.refl wi.heap.size wi).alloc (Nat.le_refl _) (.cells #[.int .i64 ia, .string na, .slice xa' la ya'] 51)
         obtain ⟨X2, hX2⟩ : ∃ W, W = wi.alloc (.cells #[.int .i64 ia, .string na, .slice xa' la ya'] 51) := ⟨_, rfl⟩
         rw [← hX2] at hbx hsx
         have HAX := hid (fun W (hW : Below X2.heap.size X2 W) => hbx.below hW hbx.lt)
         have HSX2 := hid hsx
         have hbl2 := hbx.lt
         have hw82 := hsx.size
         have HR3 := hid (fun W (hW : Below X2.heap.size X2 W) => ref03_Rows ia na (.slice xa' la ya') ca w2.heap.size W (HRA.out W (hsx.trans (hW.mono hw82))) (by have := hW.size; omega))
         have s0 := fun p : LaterOf X2 => p.cell (hbx.cell 0 rfl)
         have s1 := fun p : LaterOf X2 => p.cell (hbx.cell 1 rfl)
         have s2 := fun p : LaterOf X2 => p.cell (hbx.cell 2 rfl)
         have HC3 := hid (fun p : LaterOf X2 => later_call p (HR3.out p.W p.hb))
         clear hbx hsx
         go_upto_region 24 with fail
         rw [← hX2]
         clear hX2 k0 k1 k2
         refine wp_region_later (by kernel_rfl) (by kernel_rfl) ?_
         repeat (first | go_big_quiet_step ((go_at_call 31; with_reducible exact HC3.out _)) | quiet_step ((go_at_call 31; with_reducible exact HC3.out _)))
         refine wpQuiet_nil ?_
         intro _ hw'
         obtain ⟨p7, hw''⟩ := hw'
         subst hw''
         have hb11 := p7.hb
         generalize p7.W = w11 at *
         have HB11 := hid hb11
         have hz11 := hb11.size
         clear hb11 p7 s0 s1 s2 HC3 HR3
         rw [HCNA.out]
         have HBi11 := hid (HSX2.out.trans (HB11.out.mono hw82))
         have HBX11 := hid (HBXi.out.trans (HBi11.out.mono hxi))
         have HB311 := hid (HB3i.out.trans (HBi11.out.mono h3i))
         have HFD := hid (ref38_Find ia ib na nb (.slice xa' la ya') (.slice xb lb yb) ca cb w11 HVA.out HVB.out HFA.out ((HRA.out w11 HBi11.out).more fun b (hb : b < w2.heap.size) => by have := HBi11.out.size; show b < w11.heap.size; omega) ((HRB.out w11 (HSX.out.trans (HBX11.out.mono hw8))).more fun b (hb : b < w2.heap.size) => by have := HBi11.out.size; show b < w11.heap.size; omega) (HT.out.below (HB03.out.trans (HB311.out.mono HB03.out.size))))
         have s0 := (HAX.out w11 HB11.out).cell 0 rfl
         have s1 := (HAX.out w11 HB11.out).cell 1 rfl
         have s2 := (HAX.out w11 HB11.out).cell 2 rfl
         have t0 := (HBX.out w11 HBX11.out).cell 0 rfl
         have t1 := (HBX.out w11 HBX11.out).cell 1 rfl
         have t2 := (HBX.out w11 HBX11.out).cell 2 rfl
         go_wp2_with fail
         clear s0 s1 s2 t0 t1 t2
         with_reducible refine HFD.out.mono ?_
         rintro e w12 ⟨oa, on, oc, ok, rfl, hb12, hfd⟩
         have HBi12 := hid (HBi11.out.trans (hb12.mono HBi11.out.size))
         have HFOUND := hid hfd
         have HBX12 := hid (HBXi.out.trans (HBi12.out.mono hxi))
         have HBF := hid (HB5.out.trans (HBi12.out.mono hwi))
         have s0 := (HAX.out w12 (HB11.out.trans (hb12.mono hz11))).cell 0 rfl
         have t0 := (HBX.out w12 HBX12.out).cell 0 rfl
         have l2 := (HX.out.below (HBli.out.trans (HBi12.out.mono hli)) HX.out.lt).cell 2 rfl
         have u0 := (HFB.out w12 (HBYi.out.trans (HBi12.out.mono hyi))).cell 0 rfl
         clear hb12 hfd HFD
         by_cases he1 : ia = ib
         ·have he1d : decide (ia = ib) = true := decide_eq_true he1
          have he1b : (ia == ib) = true := beq_iff_eq.2 he1
          go_wp2_with fail
          go_roundg (gk - 1)
          case rel => exact ⟨s + 1, by go_num, by omega, HBF⟩
          case measure => omega
         ·have he1d : decide (ia = ib) = false := decide_eq_false he1
          have he1b : (ia == ib) = false := beq_false_of_ne he1
          cases ok with
          | false =>
           go_wp2_with fail
           go_roundg (gk - 1)
           case rel => exact ⟨s + 1, by go_num, by omega, HBF⟩
           case measure => omega
          | true =>
           by_cases he2 : (CA : Int) < (CB : Int)
           ·have he2d : decide ((CA : Int) < (CB : Int)) = true := decide_eq_true he2
            go_wp2_with fail
            go_roundg (gk - 1)
            case rel => exact ⟨s + 1, by go_num, by omega, HBF⟩
            case measure => omega
           ·have he2d : decide ((CA : Int) < (CB : Int)) = false := decide_eq_false he2
            by_cases he4 : (CA : Int) = (CB : Int) ∧ ib < ia
            ·obtain ⟨he3, he4⟩ := he4
             have he4c : ¬ ia ≤ ib := by omega
             have he3d : decide ((CA : Int) = (CB : Int)) = true := decide_eq_true he3
             have he3b : ((CA : Int) == (CB : Int)) = true := beq_iff_eq.2 he3
             have he4d : decide (ib < ia) = true := decide_eq_true he4
             go_wp2_with fail
             go_roundg (gk - 1)
             case rel => exact ⟨s + 1, by go_num, by omega, HBF⟩
             case measure => omega
            ·obtain ⟨l, hl, hll⟩ := HFOUND.out rfl
             have hgr : grT ⟨ia, na, ca⟩ ⟨ib, nb, cb⟩ = true := by
              rw [grT_iff, HCA.out, HCB.out]
              show CB < CA ∨ (CA = CB ∧ ia < ib)
              omega
             have hnr := HNEAR2.out _ HMA.out hgr l hl
             rw [HCA.out] at hnr
             simp only at hnr
             have HON := hid (show ¬ ((on : Int) < (x.ops.length : Int)) by omega)
             have HOE := hid (fun (h : (on : Int) = (x.ops.length : Int)) => (show ¬ ((CA : Int) < (CF : Int)) ∧ ¬ ((CA : Int) = (CF : Int) ∧ i0 < ia) by omega))
             clear hnr hl hll hgr HFOUND
             generalize x.ops.length = xn at *
             have hn1 := HON.out
             have hn1d : decide ((on : Int) < (xn : Int)) = false := decide_eq_false hn1
             by_cases he3 : (CA : Int) = (CB : Int)
             ·have he5 : ¬ ib < ia := fun h => he4 ⟨he3, h⟩
              clear he4
              have he3d : decide ((CA : Int) = (CB : Int)) = true := decide_eq_true he3
              have he3b : ((CA : Int) == (CB : Int)) = true := beq_iff_eq.2 he3
              have he5d : decide (ib < ia) = false := decide_eq_false he5
              by_cases hn2 : (on : Int) = (xn : Int)
              ·have hn2d : decide ((on : Int) = (xn : Int)) = true := decide_eq_true hn2
               have hn2b : ((on : Int) == (xn : Int)) = true := beq_iff_eq.2 hn2
               obtain ⟨hm1, hm2⟩ := HOE.out hn2
               have hm1d : decide ((CA : Int) < (CF : Int)) = false := decide_eq_false hm1
               by_cases hm3 : (CA : Int) = (CF : Int)
               ·have hm4 : ¬ i0 < ia := fun h => hm2 ⟨hm3, h⟩
                clear hm2
                obtain rfl : CA = CB := by omega
                obtain rfl : CA = CF := by omega
                have hm4d : decide (i0 < ia) = false := decide_eq_false hm4
                go_wp2_with fail
                go_roundg (gk - 1)
                case rel => exact ⟨s + 1, by go_num, by omega, HBF⟩
                case measure => omega
               ·clear hm2
                have hm3d : decide ((CA : Int) = (CF : Int)) = false := decide_eq_false hm3
                have hm3b : ((CA : Int) == (CF : Int)) = false := beq_false_of_ne hm3
                go_wp2_with fail
                go_roundg (gk - 1)
                case rel => exact ⟨s + 1, by go_num, by omega, HBF⟩
                case measure => omega
              ·have hn2d : decide ((on : Int) = (xn : Int)) = false := decide_eq_false hn2
               have hn2b : ((on : Int) == (xn : Int)) = false := beq_false_of_ne hn2
               go_wp2_with fail
               go_roundg (gk - 1)
               case rel => exact ⟨s + 1, by go_num, by omega, HBF⟩
               case measure => omega
             ·clear he4
              have he3d : decide ((CA : Int) = (CB : Int)) = false := decide_eq_false he3
              have he3b : ((CA : Int) == (CB : Int)) = false := beq_false_of_ne he3
              by_cases hn2 : (on : Int) = (xn : Int)
              ·have hn2d : decide ((on : Int) = (xn : Int)) = true := decide_eq_true hn2
               have hn2b : ((on : Int) == (xn : Int)) = true := beq_iff_eq.2 hn2
               obtain ⟨hm1, hm2⟩ := HOE.out hn2
               have hm1d : decide ((CA : Int) < (CF : Int)) = false := decide_eq_false hm1
               by_cases hm3 : (CA : Int) = (CF : Int)
               ·have hm4 : ¬ i0 < ia := fun h => hm2 ⟨hm3, h⟩
                clear hm2
                have hm3d : decide ((CA : Int) = (CF : Int)) = true := decide_eq_true hm3
                have hm3b : ((CA : Int) == (CF : Int)) = true := beq_iff_eq.2 hm3
                have hm4d : decide (i0 < ia) = false := decide_eq_false hm4
                go_wp2_with fail
                go_roundg (gk - 1)
                case rel => exact ⟨s + 1, by go_num, by omega, HBF⟩
                case measure => omega
               ·clear hm2
                have hm3d : decide ((CA : Int) = (CF : Int)) = false := decide_eq_false hm3
                have hm3b : ((CA : Int) == (CF : Int)) = false := beq_false_of_ne hm3
                go_wp2_with fail
                go_roundg (gk - 1)
                case rel => exact ⟨s + 1, by go_num, by omega, HBF⟩
                case measure => omega
              ·have hn2d : decide ((on : Int) = (xn : Int)) = false := decide_eq_false hn2
               have hn2b : ((on : Int) == (xn : Int)) = false := beq_false_of_ne hn2
               go_wp2_with fail
               go_roundg (gk - 1)
               case rel => exact ⟨s + 1, by go_num, by omega, HBF⟩
               case measure => omega
        ·obtain rfl : gk = 0 := by omega
         obtain rfl : s = N := by omega
         go_wp2_with fail
         go_roundg (go - 1)
         case rel => exact ⟨q + 1, by go_num, by omega, HB3i⟩
         case measure => omega
   ·obtain rfl : go = 0 := by omega
    obtain rfl : q = N := by omega
    have HBo := hid (HB03.out.trans (HB.out.mono HB03.out.size))
    go_wp2_with fail
    with_reducible refine (HAW.out wo HBo.out).mono ?_
    rintro e w8 ⟨rfl, hb8⟩
    have HF := hid (HBo.out.trans (hb8.mono HBo.out.size))
    go_wp2
    go_ret
    exact ⟨rfl, HF.out⟩
 ·have HLI := hid (kit_Light a n c w hnm)
  rw [decide_eq_false hg] at HLI
  go_enter Tryz.func7, Tryz.ntmps7
  go_wp2_with fail
  with_reducible refine HLI.out.mono ?_
  rintro e w0 ⟨rfl, rfl⟩
  go_wp2_with fail
  with_reducible refine (HAW.out w (Below.refl _ _)).mono ?_
  rintro e w4 ⟨rfl, hb4⟩
  go_wp2
  go_ret
  exact ⟨rfl, hb4⟩
end Go.Proofs.YtaajpliifdlokaaGreatDoor
