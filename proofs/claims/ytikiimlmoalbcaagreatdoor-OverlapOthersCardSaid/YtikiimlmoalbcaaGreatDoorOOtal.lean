/- Contract of ref18.Valid at the index of columns in order (after Nq). -/
import Derived.Test.YtikiimlmoalbcaaGreatDoorOOtak
import Derived.Test.YtikiimlmoalbcaaGreatDoorOOtaj
import Derived.Test.YtikiimlmoalbcaaGreatDoorOOtag
set_option linter.unusedVariables false
set_option linter.unusedSimpArgs false
namespace Go.Proofs.YtikiimlmoalbcaaGreatDoor
open Go.RowKit
set_option maxRecDepth 100000 in
set_option maxHeartbeats 1000000 in
theorem ref03_LessQ (a1 a2 b1 b2 : Int) (w : World) : Calls Tryz.prog 94 #[.agg #[.int .i64 a1, .int .i64 a2], .agg #[.int .i64 b1, .int .i64 b2]] w (Ret w (.bool (rlt (a1, a2) (b1, b2)))) := by
  have hb := ((Below.refl w.heap.size w).alloc (Nat.le_refl _) (.cells #[.int .i64 a1, .int .i64 a2] 51)).alloc (by simp) (.cells #[.int .i64 b1, .int .i64 b2] 51)
  have HB := hid hb
  have HR : Hid (rlt (a1, a2) (b1, b2) = (decide (a1 < b1) || (decide (a1 = b1) && decide (a2 < b2)))) := hid rfl
  clear hb
  generalize rlt (a1, a2) (b1, b2) = r at *
  go_enter Tryz.func94, Tryz.ntmps94
  by_cases h1 : a1 < b1
  · have hgd : decide (a1 < b1) = true := decide_eq_true h1
    go_wp2_with fail
    go_ret
    exact ⟨by rw [HR.out, decide_eq_true h1]; rfl, HB.out⟩
  · have hgd : decide (a1 < b1) = false := decide_eq_false h1
    by_cases h2 : a1 = b1
    · subst h2
      have HR : Hid (r = decide (a2 < b2)) := hid (by rw [HR.out]; simp)
      go_wp2_with fail
      go_ret
      exact ⟨by rw [HR.out]; first | rfl | simp, HB.out⟩
    · have hgd2 : decide (a1 = b1) = false := decide_eq_false h2
      have hgd3 : (a1 == b1) = false := beq_false_of_ne h2
      have HR : Hid (r = false) := hid (by rw [HR.out, decide_eq_false h1, decide_eq_false h2]; rfl)
      go_wp2_with fail
      go_ret
      exact ⟨by rw [HR.out]; first | rfl | simp [*], HB.out⟩
set_option maxRecDepth 100000 in
set_option maxHeartbeats 4000000 in
theorem ref18_Valid (cs : List Cv) (hok : CvsOk cs) (ev vv lv : Value) (B : Nat) (w : World) (hx : RdIx w (· < B) ev vv lv (indexOf cs)) (hB : B ≤ w.heap.size) :
  Calls Tryz.prog 71 #[.agg #[ev, vv, lv]] w (Ret w (.bool true)) := by
 obtain ⟨hE, hV, lf, ⟨la, lc, rfl, hlc, hlm, hlr⟩, hkids⟩ := hx
 obtain ⟨ea, ec, rfl, hec, hem, her⟩ := hE
 have HIS := hid (fun W (hW : Below w.heap.size w W) => ref_IsSet vv (setOfL (allOf cs)) B W (Rd.below (InS.rds hV fun b h => h) hW hB))
 rw [Asc.isSet (setOfL_asc (allOf cs))] at HIS
 obtain ⟨va, vc, rfl, hvc, hvm, hvr⟩ := hV
 have hll : (indexOf cs).lists.length = (setOfL (allOf cs)).length := by simp [indexOf]
 have hel : (indexOf cs).ents.length = cs.length := ents_len cs
 have hvl : (indexOf cs).vals.length = (setOfL (allOf cs)).length := rfl
 have hvals : (setOfL (allOf cs)).length ≤ 268435456 := by
  have h1 := setOfL_len (allOf cs)
  have h2 := all_len (m := 4096) hok.len
  have h3 := hok.many
  have h4 : cs.length * 4096 ≤ 65536 * 4096 := Nat.mul_le_mul_right _ h3
  omega
 have HLR : Hid (∀ q, q < (setOfL (allOf cs)).length → ∃ (xa : Option Addr) (xc : Nat), (∀ W, Below w.heap.size w W → ∃ b o, la = some ⟨b, o, none⟩ ∧ W.cell? ⟨b, o + q, none⟩ = some (.slice xa (listOfV cs ((setOfL (allOf cs)).getD q ⟨#[]⟩)).length xc)) ∧ Rd w B (.slice xa (listOfV cs ((setOfL (allOf cs)).getD q ⟨#[]⟩)).length xc) (listOfV cs ((setOfL (allOf cs)).getD q ⟨#[]⟩)).length (natF (listOfV cs ((setOfL (allOf cs)).getD q ⟨#[]⟩)))) := hid (fun q hq => by
  have h1 := hkids q (by omega)
  have e1 : (indexOf cs).lists.getD q [] = listOfV cs ((setOfL (allOf cs)).getD q ⟨#[]⟩) := by simp [indexOf, List.getD, hq]
  rw [e1] at h1
  have h2 := h1.rdn fun b h => h
  obtain ⟨xa, xc, e2, -⟩ := h1
  rw [e2] at h2
  refine ⟨xa, xc, fun W hW => ?_, h2⟩
  obtain ⟨b, o, e3, hb, hc⟩ := hlr (by omega)
  have hb' : b < B := hb
  refine ⟨b, o, e3, (hW.cell (p := ⟨b, o + q, none⟩) (by show b < _; omega)).trans ?_⟩
  have h4 := hc q (by omega) 0 (by omega)
  simp only [Nat.mul_one, Nat.add_zero] at h4
  rw [h4, e2])
 rw [hll] at hlc
 rw [hel] at hec her
 rw [hvl] at hvc HIS
 have HER : Hid (∀ i, i < cs.length → ∃ b o, ea = some ⟨b, o, none⟩ ∧ b < B ∧ w.cell? ⟨b, o + i * 3, none⟩ = some (.int .i64 (refZ (cs.getD i Cv.z)).1) ∧ w.cell? ⟨b, o + i * 3 + 1, none⟩ = some (.int .i64 (refZ (cs.getD i Cv.z)).2) ∧ w.cell? ⟨b, o + i * 3 + 2, none⟩ = some (.int .i64 ((cs.getD i Cv.z).2.length : Int))) := hid (fun i hi => by
  obtain ⟨b, o, e3, hb, hc⟩ := her (by omega)
  have e1 : (indexOf cs).ents.getD i ((0, 0), 0) = ((cs.getD i Cv.z).1, (cs.getD i Cv.z).2.length) := by simp [indexOf, entsOf, List.getD, hi]
  refine ⟨b, o, e3, hb, (hc i hi 0 (by omega)).trans ?_, (hc i hi 1 (by omega)).trans ?_, (hc i hi 2 (by omega)).trans ?_⟩
  ·simp only [entF, e1]; rfl
  ·simp only [entF, e1]; rfl
  ·simp only [entF, e1]; rfl)
 have HUP := hid (fun i (hi : i + 1 < cs.length) => (show rlt (refZ (cs.getD i Cv.z)) (refZ (cs.getD (i + 1) Cv.z)) = true from by
  have h1 := List.pairwise_iff_getElem.1 hok.up i (i + 1) (by omega) hi (by omega)
  simpa [List.getD, hi, show i < cs.length by omega] using h1))
 have HID := hid (fun i (hi : i < cs.length) => hok.ids _ (getD_mem hi Cv.z))
 have HLN := hid (fun i (hi : i < cs.length) => hok.len _ (getD_mem hi Cv.z))
 have HCN := hid (fun i (hi : i < cs.length) => cntV_all hok hi)
 have HCL := hid (fun vs j (hj : j < cs.length) => cntV_le cs vs j hj)
 have HSN := hid (cntV_snoc cs)
 have HPOS := hid (fun v (h : v ∈ setOfL (allOf cs)) => listOfV_pos h)
 have HLT := hid (fun v k => @listOfV_lt cs v k)
 have HLU := hid (fun v k => @listOfV_up cs v k)
 have HLL := hid (fun v => listOfV_len cs v)
 have hmany := hok.many
 clear hlr hkids her hvr hok hlm hem hvm
 rw [hll, hel, hvl]
 clear hll hel hvl
 generalize setOfL (allOf cs) = vs at *
 generalize hnn : cs.length = n at *
 have HN := hid hnn
 clear hnn
 generalize hnv : vs.length = nv at *
 have HNV := hid hnv
 clear hnv
 have hmk := made_int_row n (by omega)
 go_enter Tryz.func71, Tryz.ntmps71
 generalize hLA : Code.loop _ = LA
 generalize hLB : Code.loop _ = LB
 generalize hLD : Code.loop _ = LD
 have HXa := hid (BoxN.new w #[.slice ea n ec, .slice va nv vc, .slice la nv lc] 30)
 have HBa := hid ((Below.refl w.heap.size w).alloc (Nat.le_refl _) (.cells #[.slice ea n ec, .slice va nv vc, .slice la nv lc] 30))
 have hza : (w.alloc (.cells #[.slice ea n ec, .slice va nv vc, .slice la nv lc] 30)).heap.size = w.heap.size + 1 := by simp
 have xa0 := HXa.out.cell 0 rfl
 go_wp2_with fail
 clear xa0
 generalize w.alloc (.cells #[.slice ea n ec, .slice va nv vc, .slice la nv lc] 30) = Wa at *
 subst hLA
 go_loopg [15, 3, 4] n (fun N i u1 u2 wr => ∃ q : Nat, q + N = n ∧ i = .int .i64 (q : Int) ∧ Hid (Below Wa.heap.size Wa wr))
 case atStart => exact ⟨0, by omega, rfl, hid (Below.refl _ _)⟩
 case round =>
  obtain ⟨q, hq, rfl, HBL⟩ := hrel
  have HBW := hid (HBa.out.trans (HBL.out.mono (by omega)))
  have hwr := HBL.out.size
  by_cases hpq : 0 < gk
  ·obtain ⟨b, o, rfl, hb, z0, z1, z2⟩ := HER.out q (by omega)
   have hxl := HXa.out.lt
   have hbw : b < w.heap.size := by omega
   have c0 := (HBW.out.cell (p := ⟨b, o + q * 3, none⟩) hbw).trans z0
   have c1 := (HBW.out.cell (p := ⟨b, o + q * 3 + 1, none⟩) hbw).trans z1
   have c2 := (HBW.out.cell (p := ⟨b, o + q * 3 + 2, none⟩) hbw).trans z2
   obtain ⟨hi1, hi2⟩ := HID.out q (by omega)
   have hsz := HLN.out q (by omega)
   have HPREV : Hid (∀ pp, q = pp + 1 → wr.cell? ⟨b, o + pp * 3, none⟩ = some (.int .i64 (refZ (cs.getD pp Cv.z)).1) ∧ wr.cell? ⟨b, o + pp * 3 + 1, none⟩ = some (.int .i64 (refZ (cs.getD pp Cv.z)).2) ∧ rlt (refZ (cs.getD pp Cv.z)) (refZ (cs.getD q Cv.z)) = true) := hid (fun pp e => by
    subst e
    obtain ⟨b', o', e3, hb', y0, y1, y2⟩ := HER.out pp (by omega)
    cases e3
    exact ⟨(HBW.out.cell (p := ⟨b, o + pp * 3, none⟩) hbw).trans y0, (HBW.out.cell (p := ⟨b, o + pp * 3 + 1, none⟩) hbw).trans y1, HUP.out pp (by omega)⟩)
   have xb0 := (HXa.out.below HBL.out hxl).cell 0 rfl
   have hr1 : 0 ≤ (refZ (cs.getD q Cv.z)).1 := hi1
   have hr2 : (refZ (cs.getD q Cv.z)).1 ≤ 1073741824 := hi2
   have hr3 : 0 ≤ (refZ (cs.getD q Cv.z)).2 := by show (0 : Int) ≤ ((cs.getD q Cv.z).1.2 : Int); omega
   clear z0 z1 z2 hi1 hi2
   generalize (cs.getD q Cv.z).2.length = sz at *
   generalize refZ (cs.getD q Cv.z) = r at *
   obtain ⟨ra, rb⟩ := r
   simp only at c0 c1 hr1 hr2 hr3
   have hd4 : decide ((4096 : Int) < (sz : Int)) = false := decide_eq_false (by omega)
   have hda : decide (ra < 0) = false := decide_eq_false (by omega)
   have hdb : decide ((1073741824 : Int) < ra) = false := decide_eq_false (by omega)
   have hdc : decide (rb < 0) = false := decide_eq_false (by omega)
   have hqn : (q : Int) < (n : Int) := by omega
   by_cases hq0 : q = 0
   ·subst hq0
    rw [show (((0 : Nat)) : Int) = 0 from rfl]
    simp only [Nat.zero_mul, Nat.add_zero] at c0 c1 c2
    have hd0 : decide ((0 : Int) < 0) = false := by simp
    go_wp2_with fail
    have HBE := hid ((Below.refl wr.heap.size wr).alloc (Nat.le_refl _) (.cells #[.int .i64 ra, .int .i64 rb, .int .i64 (sz : Int)] 73))
    have hbe := BoxN.new wr #[.int .i64 ra, .int .i64 rb, .int .i64 (sz : Int)] 73
    have hz8 : wr.heap.size ≤ (wr.alloc (.cells #[.int .i64 ra, .int .i64 rb, .int .i64 (sz : Int)] 73)).heap.size := by simp
    generalize wr.alloc (.cells #[.int .i64 ra, .int .i64 rb, .int .i64 (sz : Int)] 73) = W8 at *
    have f0 := fun p : LaterOf W8 => p.cell (hbe.cell 0 rfl)
    have f1 := fun p : LaterOf W8 => p.cell (hbe.cell 1 rfl)
    have f2 := fun p : LaterOf W8 => p.cell (hbe.cell 2 rfl)
    have f3 := fun p : LaterOf W8 => p.cell ((HBE.out.cell (p := ⟨w.heap.size, 0, none⟩) (by show w.heap.size < _; omega)).trans xb0)
    clear hbe
    refine wp_region_later (by kernel_rfl) (by kernel_rfl) ?_
    repeat (first | go_big_quiet_step (fail) | quiet_step (fail))
    refine wpQuiet_nil ?_
    intro _ hw'
    obtain ⟨p5, hw''⟩ := hw'
    subst hw''
    have hb5 := p5.hb
    generalize p5.W = w5 at *
    have HB9 := hid (HBL.out.trans ((HBE.out.trans (hb5.mono hz8)).mono hwr))
    clear f0 f1 f2 f3 hb5 hd4 hd0
    go_wp2_with fail
    go_roundg (gk - 1)
    case rel => exact ⟨0 + 1, by omega, by go_num, HB9⟩
    case measure => omega
   ·obtain ⟨pp, rfl⟩ : ∃ pp, q = pp + 1 := ⟨q - 1, by omega⟩
    obtain ⟨y0, y1, hlt⟩ := HPREV.out pp rfl
    generalize refZ (cs.getD pp Cv.z) = pr at *
    obtain ⟨pa, pb⟩ := pr
    simp only at y0 y1 hlt
    have hw1 : IntKind.i64.wrap ((pp : Int) + 1 - 1) = (pp : Int) := (IntWalk.i64_in _ (by omega)).trans (by omega)
    have hw2 : IntKind.i64.wrap (pp : Int) = (pp : Int) := IntWalk.i64_in _ (by omega)
    have hp1 : (0 : Int) < (pp : Int) + 1 := by omega
    have hd3 : decide ((0 : Int) < (pp : Int) + 1) = true := decide_eq_true (by omega)
    have hpL : (pp : Int) < (n : Int) := by omega
    have hpL2 : pp < n := by omega
    have hpL3 : (pp : Int) + 1 < (n : Int) := by omega
    rw [show (((pp + 1 : Nat)) : Int) = (pp : Int) + 1 from by omega]
    go_wp2_with fail
    have HBE := hid ((Below.refl wr.heap.size wr).alloc (Nat.le_refl _) (.cells #[.int .i64 ra, .int .i64 rb, .int .i64 (sz : Int)] 73))
    have hbe := BoxN.new wr #[.int .i64 ra, .int .i64 rb, .int .i64 (sz : Int)] 73
    have hz8 : wr.heap.size ≤ (wr.alloc (.cells #[.int .i64 ra, .int .i64 rb, .int .i64 (sz : Int)] 73)).heap.size := by simp
    generalize wr.alloc (.cells #[.int .i64 ra, .int .i64 rb, .int .i64 (sz : Int)] 73) = W8 at *
    have f0 := fun p : LaterOf W8 => p.cell (hbe.cell 0 rfl)
    have f1 := fun p : LaterOf W8 => p.cell (hbe.cell 1 rfl)
    have f2 := fun p : LaterOf W8 => p.cell (hbe.cell 2 rfl)
    have f3 := fun p : LaterOf W8 => p.cell ((HBE.out.cell (p := ⟨w.heap.size, 0, none⟩) (by show w.heap.size < _; omega)).trans xb0)
    have f5 := fun p : LaterOf W8 => p.cell ((HBE.out.cell (p := ⟨b, o + pp * 3, none⟩) (by show b < _; omega)).trans y0)
    have f6 := fun p : LaterOf W8 => p.cell ((HBE.out.cell (p := ⟨b, o + pp * 3 + 1, none⟩) (by show b < _; omega)).trans y1)
    have HC2 := hid (fun p : LaterOf W8 => (show Calls Tryz.prog 94 #[.agg #[.int .i64 pa, .int .i64 pb], .agg #[.int .i64 ra, .int .i64 rb]] p.W fun e w'' => e = .returned (.bool true) ∧ ∃ q : LaterOf W8, w'' = q.W from later_call p (by have h := ref03_LessQ pa pb ra rb p.W; rw [hlt] at h; exact h)))
    clear hbe
    refine wp_region_later (by kernel_rfl) (by kernel_rfl) ?_
    repeat (first | go_big_quiet_step ((go_at_call 94; exact HC2.out _)) | quiet_step ((go_at_call 94; exact HC2.out _)))
    refine wpQuiet_nil ?_
    intro _ hw'
    obtain ⟨p5, hw''⟩ := hw'
    subst hw''
    have hb5 := p5.hb
    generalize p5.W = w5 at *
    have HB9 := hid (HBL.out.trans ((HBE.out.trans (hb5.mono hz8)).mono hwr))
    clear f0 f1 f2 f3 hb5 hd4 f5 f6 HC2 hw1 hw2 hd3
    go_wp2_with fail
    go_roundg (gk - 1)
    case rel => exact ⟨(pp + 1) + 1, by omega, by go_num, HB9⟩
    case measure => omega
  ·obtain rfl : n = q := by omega
   have HX0 := hid (HXa.out.below HBL.out (by omega))
   have HB0 := hid HBW.out
   have hzw : w.heap.size + 1 ≤ wr.heap.size := by omega
   have hxw : w.heap.size < wr.heap.size := by omega
   have x1 := HX0.out.cell 1 rfl
   clear HBL hpq hq HXa
   go_wp2_with fail
   with_reducible refine (HIS.out _ HB0.out).mono ?_
   generalize wr = W0 at *
   rintro e w1 ⟨rfl, k1, rfl⟩
   clear x1
   have HX1 := hid (HX0.out.drewN k1)
   have HB1 := hid (below_drewN (n := k1) HB0.out)
   have hz1l : w.heap.size + 1 ≤ (W0.drewN k1).heap.size := hzw
   generalize W0.drewN k1 = W1 at *
   have x0 := HX1.out.cell 0 rfl
   have x1 := HX1.out.cell 1 rfl
   have x2 := HX1.out.cell 2 rfl
   have HY := hid (HX1.out.alloc (.cells (madeCells #[.int .i64 0] n) 3))
   have y2 := HY.out.cell 2 rfl
   have HRO := hid (World.rowIs_made W1 (.int .i64 0) n 3)
   have HB2 := hid ((Below.refl W1.heap.size W1).alloc (Nat.le_refl _) (.cells (madeCells #[.int .i64 0] n) 3))
   go_wp2_with fail
   have hx1l : w.heap.size < W1.heap.size := by omega
   clear x0 x1 x2 y2 hmk
   generalize W1.alloc (.cells (madeCells #[.int .i64 0] n) 3) = W2 at *
   subst hLB
   go_loopg [79, 7, 8, 9, 86, 87, 88] nv (fun N i u1 u2 u3 u4 u5 u6 wr => ∃ q : Nat, q + N = nv ∧ i = .int .i64 (q : Int) ∧ Hid (Below W1.heap.size W1 wr ∧ BoxN wr w.heap.size 30 #[.slice ea n ec, .slice va nv vc, .slice la nv lc] ∧ wr.rowIs W1.heap.size 3 n (fun j => .int .i64 ((cntV cs (vs.take q) j : Nat) : Int))))
   case atStart => exact ⟨0, by omega, rfl, hid ⟨HB2.out, HY.out, HRO.out.congr fun j _ => by simp [cntV]⟩⟩
   case round =>
    obtain ⟨q, hq, rfl, HST⟩ := hrel
    by_cases hpq : 0 < gk
    ·obtain ⟨xa, xc, hcell, hrd⟩ := HLR.out q (by omega)
     obtain ⟨b, o, rfl, v0⟩ := hcell wr (HB1.out.trans (HST.out.1.mono (by omega)))
     have hvm : vs.getD q ⟨#[]⟩ ∈ vs := getD_mem (by have := HNV.out; omega) _
     have hpos := HPOS.out _ hvm
     have HLTQ := hid (HLT.out (vs.getD q ⟨#[]⟩))
     have HLUQ := hid (HLU.out (vs.getD q ⟨#[]⟩))
     have hll := HLL.out (vs.getD q ⟨#[]⟩)
     have HTK : Hid (∀ j, cntV cs (vs.take (q + 1)) j = cntV cs (vs.take q) j + (listOfV cs (vs.getD q ⟨#[]⟩)).count j) := hid (fun j => by
      have h1 : q < vs.length := by have := HNV.out; omega
      rw [List.take_succ_eq_append_getElem h1, HSN.out]
      simp [List.getD, h1])
     have HRD := hid hrd
     clear hcell hrd hvm
     generalize listOfV cs (vs.getD q ⟨#[]⟩) = X at *
     generalize hxl : X.length = xl at *
     have HXL := hid hxl
     clear hxl
     obtain ⟨wo, rfl⟩ : ∃ wo, wo = wr := ⟨wr, rfl⟩
     obtain ⟨ko, rfl⟩ : ∃ ko, ko = gk := ⟨gk, rfl⟩
     have hne : ((xl : Int) == 0) = false := beq_false_of_ne (by omega)
     have hne2 : (xl == 0) = false := beq_false_of_ne (by omega)
     generalize hLC : Code.loop _ = LC
     go_wp2_with fail
     clear v0
     subst hLC
     go_loopg [88, 8, 9] xl (fun N i u1 u2 wr => ∃ k : Nat, k + N = xl ∧ i = .int .i64 (k : Int) ∧ Hid (Below W1.heap.size W1 wr ∧ BoxN wr w.heap.size 30 #[.slice ea n ec, .slice va nv vc, .slice (some ⟨b, o, none⟩) nv lc] ∧ wr.rowIs W1.heap.size 3 n (fun j => .int .i64 ((cntV cs (vs.take q) j + (X.take k).count j : Nat) : Int))))
     case atStart => exact ⟨0, by omega, rfl, hid ⟨HST.out.1, HST.out.2.1, HST.out.2.2.congr fun j _ => by simp⟩⟩
     case round =>
      obtain ⟨k, hk, rfl, HSK⟩ := hrel
      by_cases hpk : 0 < gk
      ·obtain ⟨pa', pc', epa, -, hpm, hpr⟩ := HRD.out
       obtain ⟨rfl, -, rfl⟩ := Value.slice.inj epa
       obtain ⟨b5, o5, rfl, hb5, hpc5⟩ := hpr (by omega)
       have hb5w : b5 < W1.heap.size := by omega
       have HBK := hid (HB1.out.trans (HSK.out.1.mono (by omega)))
       have hlt := HLTQ.out k (by have := HXL.out; omega)
       have e1 : wr.cell? ⟨b5, o5 + k, none⟩ = some (.int .i64 ((X.getD k 0 : Nat) : Int)) := (HBK.out.cell (p := ⟨b5, o5 + k, none⟩) (by show b5 < _; omega)).trans (hpc5 k (by omega))
       have r1 := HSK.out.2.2.cell hlt
       have xq0 := HSK.out.2.1.cell 0 rfl
       have fr := HSK.out.2.2.frozen (X.getD k 0)
       have HCT := hid (fun j => count_take X (k := k) (by have := HXL.out; omega) j)
       have hcl : cntV cs (vs.take q) (X.getD k 0) + (X.take k).count (X.getD k 0) ≤ 1099511627776 := by
        have h1 := HCL.out (vs.take q) (X.getD k 0) hlt
        have h2 := List.count_le_length (a := X.getD k 0) (l := X.take k)
        have h3 : (X.take k).length ≤ k := List.length_take_le _ _
        have h4 : (vs.take q).length ≤ q := List.length_take_le _ _
        omega
       clear epa hpr hpm
       generalize hcc : cntV cs (vs.take q) (X.getD k 0) + (X.take k).count (X.getD k 0) = cc at *
       have hpv : ∀ pp, k = pp + 1 → wr.cell? ⟨b5, o5 + pp, none⟩ = some (.int .i64 ((X.getD pp 0 : Nat) : Int)) ∧ X.getD pp 0 < X.getD k 0 := fun pp e => by
        subst e
        exact ⟨(HBK.out.cell (p := ⟨b5, o5 + pp, none⟩) (by show b5 < _; omega)).trans (hpc5 pp (by omega)), HLUQ.out pp (by have := HXL.out; omega)⟩
       have HPV := hid hpv
       clear hpc5 hpv
       generalize X.getD k 0 = x at *
       have HCC : Hid (cntV cs (vs.take q) x + (X.take k).count x = cc) := hid hcc
       clear hcc
       have hd0 : decide ((x : Int) < 0) = false := decide_eq_false (by omega)
       have hd1 : decide (n ≤ x) = false := decide_eq_false (by omega)
       have hd2 : decide ((n : Int) ≤ (x : Int)) = false := decide_eq_false (by omega)
       have hxi : (x : Int) < (n : Int) := by omega
       by_cases hk0 : k = 0
       ·subst hk0
        rw [show (((0 : Nat)) : Int) = 0 from rfl]
        simp only [Nat.add_zero] at e1
        have hnew : ∀ j, (if j = x then Value.int .i64 ((cc : Int) + 1) else .int .i64 ((cntV cs (vs.take q) j + (X.take 0).count j : Nat) : Int)) = .int .i64 ((cntV cs (vs.take q) j + (X.take (0 + 1)).count j : Nat) : Int) := fun j => by
         rw [HCT.out j]
         by_cases e : j = x
         ·subst e
          rw [if_pos rfl, if_pos rfl, ← Nat.add_assoc, HCC.out]
          rfl
         ·rw [if_neg e, if_neg (fun h => e h.symm)]
          rfl
        have HNW := hid hnew
        clear hnew
        go_wp2
        go_roundg (gk - 1)
        case rel => exact ⟨0 + 1, by omega, by go_num, hid ⟨by have := HSK.out.1; repeat' (first | (with_reducible exact Below.refl _ _) | (with_reducible assumption) | (with_reducible refine below_drewN ?_) | (with_reducible refine Below.alloc ?_ ?_ _) | (with_reducible refine Below.drew ?_) | (with_reducible refine Below.setCell ?_ ?_ _) | (with_reducible refine Below.trans ?_ (Below.mono (by with_reducible assumption) ?_)) | go_size), HSK.out.2.1.other (p := ⟨W1.heap.size, x, none⟩) (by show W1.heap.size ≠ w.heap.size; omega) _, (HSK.out.2.2.set x (.int .i64 ((cc : Int) + 1))).congr fun j _ => HNW.out j⟩⟩
        case measure => omega
       ·obtain ⟨pp, rfl⟩ : ∃ pp, k = pp + 1 := ⟨k - 1, by omega⟩
        obtain ⟨e0, hup⟩ := HPV.out pp rfl
        generalize X.getD pp 0 = y' at *
        have hd3 : decide (x ≤ y') = false := decide_eq_false (by omega)
        have hd4 : decide ((x : Int) ≤ (y' : Int)) = false := decide_eq_false (by omega)
        have hp1 : (0 : Int) < (pp : Int) + 1 := by omega
        have hp2 : decide ((0 : Int) < (pp : Int) + 1) = true := decide_eq_true hp1
        rw [show (((pp + 1 : Nat)) : Int) = (pp : Int) + 1 from by omega]
        clear hk0
        have hnew : ∀ j, (if j = x then Value.int .i64 ((cc : Int) + 1) else .int .i64 ((cntV cs (vs.take q) j + (X.take (pp + 1)).count j : Nat) : Int)) = .int .i64 ((cntV cs (vs.take q) j + (X.take ((pp + 1) + 1)).count j : Nat) : Int) := fun j => by
         rw [HCT.out j]
         by_cases e : j = x
         ·subst e
          rw [if_pos rfl, if_pos rfl, ← Nat.add_assoc, HCC.out]
          rfl
         ·rw [if_neg e, if_neg (fun h => e h.symm)]
          rfl
        have HNW := hid hnew
        clear hnew
        go_wp2
        go_roundg (gk - 1)
        case rel => exact ⟨(pp + 1) + 1, by omega, by go_num, hid ⟨by have := HSK.out.1; repeat' (first | (with_reducible exact Below.refl _ _) | (with_reducible assumption) | (with_reducible refine below_drewN ?_) | (with_reducible refine Below.alloc ?_ ?_ _) | (with_reducible refine Below.drew ?_) | (with_reducible refine Below.setCell ?_ ?_ _) | (with_reducible refine Below.trans ?_ (Below.mono (by with_reducible assumption) ?_)) | go_size), HSK.out.2.1.other (p := ⟨W1.heap.size, x, none⟩) (by show W1.heap.size ≠ w.heap.size; omega) _, (HSK.out.2.2.set x (.int .i64 ((cc : Int) + 1))).congr fun j _ => HNW.out j⟩⟩
        case measure => omega
      ·obtain rfl : k = xl := by omega
       go_wp2_with fail
       go_roundg (ko - 1)
       case rel => exact ⟨q + 1, by omega, by go_num, hid ⟨HSK.out.1, HSK.out.2.1, HSK.out.2.2.congr fun j _ => by rw [HTK.out, ← HXL.out, List.take_length]⟩⟩
       case measure => omega
    ·obtain rfl : q = nv := by omega
     have HROW : Hid (wr.rowIs W1.heap.size 3 n (fun j => .int .i64 (((cs.getD j Cv.z).2.length : Nat) : Int))) := hid (HST.out.2.2.congr fun j hj => by rw [← HNV.out, List.take_length, HCN.out j hj])
     have HWW := hid (HB1.out.trans (HST.out.1.mono (by omega)))
     have HXB := hid HST.out.2.1
     have x0 := HXB.out.cell 0 rfl
     clear HST HLR
     go_wp2_with fail
     clear x0
     subst hLD
     obtain ⟨wp, hwp⟩ : ∃ wp, wp = wr := ⟨wr, rfl⟩
     rw [← hwp] at HROW HWW HXB ⊢
     clear hwp
     go_loopg [126, 10, 11] n (fun N i u1 u2 wr => ∃ q : Nat, q + N = n ∧ i = .int .i64 (q : Int) ∧ Hid (Below wp.heap.size wp wr))
     case atStart => exact ⟨0, by omega, rfl, hid (Below.refl _ _)⟩
     case round =>
      obtain ⟨q, hq, rfl, HBL⟩ := hrel
      have HBW := hid (HWW.out.trans (HBL.out.mono HWW.out.size))
      have hwr := HBL.out.size
      by_cases hpq : 0 < gk
      ·obtain ⟨b, o, rfl, hb, z0, z1, z2⟩ := HER.out q (by omega)
       have hrl := HROW.out.lt
       have hbw : b < w.heap.size := by omega
       have c0 := (HBW.out.cell (p := ⟨b, o + q * 3, none⟩) hbw).trans z0
       have c1 := (HBW.out.cell (p := ⟨b, o + q * 3 + 1, none⟩) hbw).trans z1
       have c2 := (HBW.out.cell (p := ⟨b, o + q * 3 + 2, none⟩) hbw).trans z2
       have HR0 := hid ((HROW.out.of_block (w' := wr) (HBL.out.block _ hrl)).alloc (.cells #[.int .i64 (refZ (cs.getD q Cv.z)).1, .int .i64 (refZ (cs.getD q Cv.z)).2, .int .i64 (((cs.getD q Cv.z).2.length : Nat) : Int)] 73))
       have r0 := HR0.out.cell (i := q) (by omega)
       clear z0 z1 z2 HR0
       generalize (cs.getD q Cv.z).2.length = sz at *
       generalize refZ (cs.getD q Cv.z) = r at *
       obtain ⟨ra, rb⟩ := r
       simp only at c0 c1 r0
       have HBE := hid (HBL.out.alloc hwr (.cells #[.int .i64 ra, .int .i64 rb, .int .i64 (sz : Int)] 73))
       have hbe := BoxN.new wr #[.int .i64 ra, .int .i64 rb, .int .i64 (sz : Int)] 73
       have e2 := hbe.cell 2 rfl
       have hqn : (q : Int) < (n : Int) := by omega
       clear hbe
       go_upto_region 26 with fail
       obtain ⟨eb, heb⟩ : ∃ eb, eb = wr.heap.size := ⟨_, rfl⟩
       rw [← heb] at e2 ⊢
       clear heb
       generalize wr.alloc (.cells #[.int .i64 ra, .int .i64 rb, .int .i64 (sz : Int)] 73) = W8 at *
       clear c0 c1 c2
       go_region
       have HB9 : Hid (Below wp.heap.size wp W8.drew) := hid (by have h1 := HBE.out; repeat' (first | (with_reducible exact Below.refl _ _) | (with_reducible assumption) | (with_reducible refine below_drewN ?_) | (with_reducible refine Below.alloc ?_ ?_ _) | (with_reducible refine Below.drew ?_) | (with_reducible refine Below.setCell ?_ ?_ _) | (with_reducible refine Below.trans ?_ (Below.mono (by with_reducible assumption) ?_)) | go_size))
       clear e2 r0
       go_wp2_with fail
       go_roundg (gk - 1)
       case rel => exact ⟨q + 1, by omega, by go_num, HB9⟩
       case measure => omega
      ·obtain rfl : q = n := by omega
       go_wp2
       go_ret
       exact ⟨rfl, HBW.out⟩
end Go.Proofs.YtikiimlmoalbcaaGreatDoor
