/- Contract of posting.sets. -/
import Derived.Test.YtabemneoobbnaaaGreatDoorNt
namespace Go.Proofs.YtabemneoobbnaaaGreatDoor
open Go.RowKit

def rsT (cs : List Cv) (q : Nat) (j : Nat) : Int × Nat := if j < q then (cs.getD j Cv.z).1 else (0, 0)
theorem rsT_succ (cs : List Cv) (q j : Nat) : (if j = q then (cs.getD q Cv.z).1 else rsT cs q j) = rsT cs (q + 1) j := by
  unfold rsT
  by_cases e : j = q
  · subst e; rw [if_pos rfl, if_pos (by omega)]
  · rw [if_neg e]
    by_cases h : j < q
    · rw [if_pos h, if_pos (by omega)]
    · rw [if_neg h, if_neg (by omega)]

set_option maxRecDepth 100000 in
set_option maxHeartbeats 4000000 in
theorem posting_sets (cs : List Cv) (hok : CvsOk cs) (ev vv lv : Value) (B : Nat) (w : World) (hx : RdIx w (· < B) ev vv lv (indexOf cs)) (hB : B ≤ w.heap.size) :
    Calls Tryz.prog 68 #[.agg #[ev, vv, lv]] w (fun e w' => ∃ v, e = .returned v ∧ CvSt w' (w.heap.size + 1) 96 v cs ∧ Below w.heap.size w w') := by
  obtain ⟨hE, hV, lf, ⟨la, lc, rfl, hlc, hlm, hlr⟩, hkids⟩ := hx
  obtain ⟨ea, ec, rfl, hec, hem, her⟩ := hE
  obtain ⟨va, vc, rfl, hvc, hvm, hvr⟩ := hV
  obtain ⟨i0, hi, hz0, hz1, hz2⟩ := info_parts info_str
  have hll : (indexOf cs).lists.length = (setOfL (allOf cs)).length := by simp [indexOf]
  have hel : (indexOf cs).ents.length = cs.length := ents_len cs
  have hvl : (indexOf cs).vals.length = (setOfL (allOf cs)).length := rfl
  have hvals : (setOfL (allOf cs)).length ≤ 268435456 := by
    have h1 := setOfL_len (allOf cs)
    have h2 := all_len (m := 4096) hok.len
    have h3 := hok.many
    have h4 : cs.length * 4096 ≤ 65536 * 4096 := Nat.mul_le_mul_right _ h3
    omega
  have HLR : Hid (∀ q, q < (setOfL (allOf cs)).length → ∃ (xa : Option Addr) (xc : Nat), (∀ W, Below w.heap.size w W → ∃ b o, la = some ⟨b, o, none⟩ ∧ W.cell? ⟨b, o + q, none⟩ = some (.slice xa (listOfV cs ((setOfL (allOf cs)).getD q ⟨#[]⟩)).length xc)) ∧ Rd w B (.slice xa (listOfV cs ((setOfL (allOf cs)).getD q ⟨#[]⟩)).length xc) (listOfV cs ((setOfL (allOf cs)).getD q ⟨#[]⟩)).length (natF (listOfV cs ((setOfL (allOf cs)).getD q ⟨#[]⟩)))) := hid (fun q hq => by
    have h1 := hkids q (by omega)
    have e1 : (indexOf cs).lists.getD q [] = listOfV cs ((setOfL (allOf cs)).getD q ⟨#[]⟩) := by simp [indexOf, List.getD, hq]
    rw [e1] at h1
    have h2 := h1.rdn fun b h => h
    obtain ⟨xa, xc, e2, -⟩ := h1
    rw [e2] at h2
    refine ⟨xa, xc, fun W hW => ?_, h2⟩
    obtain ⟨b, o, e3, hb, hc⟩ := hlr (by omega)
    have hb' : b < B := hb
    refine ⟨b, o, e3, (hW.cell (p := ⟨b, o + q, none⟩) (by show b < _; omega)).trans ?_⟩
    have h4 := hc q (by omega) 0 (by omega)
    simp only [Nat.mul_one, Nat.add_zero] at h4
    rw [h4, e2])
  have HVR : Hid (∀ q, q < (setOfL (allOf cs)).length → ∃ b o, va = some ⟨b, o, none⟩ ∧ b < B ∧ w.cell? ⟨b, o + q, none⟩ = some (.string ((setOfL (allOf cs)).getD q ⟨#[]⟩))) := hid (fun q hq => by
    obtain ⟨b, o, e3, hb, hc⟩ := hvr (by rw [hvl]; omega)
    have h4 := hc q (by rw [hvl]; exact hq) 0 (by omega)
    simp only [Nat.mul_one, Nat.add_zero] at h4
    exact ⟨b, o, e3, hb, h4⟩)
  rw [hll] at hlc
  rw [hel] at hec her
  rw [hvl] at hvc
  have HER : Hid (∀ i, i < cs.length → ∃ b o, ea = some ⟨b, o, none⟩ ∧ b < B ∧ w.cell? ⟨b, o + i * 3, none⟩ = some (.int .i64 (cs.getD i Cv.z).1.1) ∧ w.cell? ⟨b, o + i * 3 + 1, none⟩ = some (.int .i64 ((cs.getD i Cv.z).1.2 : Int)) ∧ w.cell? ⟨b, o + i * 3 + 2, none⟩ = some (.int .i64 ((cs.getD i Cv.z).2.length : Int))) := hid (fun i hi => by
    obtain ⟨b, o, e3, hb, hc⟩ := her (by omega)
    have e1 : (indexOf cs).ents.getD i ((0, 0), 0) = ((cs.getD i Cv.z).1, (cs.getD i Cv.z).2.length) := by simp [indexOf, entsOf, List.getD, hi]
    refine ⟨b, o, e3, hb, (hc i hi 0 (by omega)).trans ?_, (hc i hi 1 (by omega)).trans ?_, (hc i hi 2 (by omega)).trans ?_⟩
    · simp only [entF, e1]; rfl
    · simp only [entF, e1]; rfl
    · simp only [entF, e1]; rfl)
  have HLT := hid (fun v k => @listOfV_lt cs v k)
  have HASC := hid (fun v => listOfV_asc cs v)
  have HLL := hid (fun v => listOfV_len cs v)
  have HFIN : Hid (∀ i, i < cs.length → ((setOfL (allOf cs)).take (setOfL (allOf cs)).length).filter (hasL (cs.getD i Cv.z).2) = (cs.getD i Cv.z).2) := hid (fun i hi => by rw [List.take_length]; exact vals_filter hok hi)
  have HEND := hid (fun q (hq : q < (setOfL (allOf cs)).length) j (hj : j < cs.length) => fillS_end (cs := cs) hq hj)
  have hmany := hok.many
  clear hlr hkids her hvr hok hlm hem hvm
  rw [hll, hel, hvl]
  clear hll hel hvl
  generalize setOfL (allOf cs) = vs at *
  generalize hnn : cs.length = n at *
  have HN := hid hnn
  clear hnn
  generalize hnv : vs.length = nv at *
  have HNV := hid hnv
  clear hnv
  have hmk := made_sets n (by omega)
  go_enter Tryz.func68, Tryz.ntmps68
  generalize hLA : Code.loop _ = LA
  generalize hLB : Code.loop _ = LB
  have HX0 := hid (BoxN.new w #[.slice ea n ec, .slice va nv vc, .slice la nv lc] 40)
  have HB0 := hid ((Below.refl w.heap.size w).alloc (Nat.le_refl _) (.cells #[.slice ea n ec, .slice va nv vc, .slice la nv lc] 40))
  have hz0 : (w.alloc (.cells #[.slice ea n ec, .slice va nv vc, .slice la nv lc] 40)).heap.size = w.heap.size + 1 := by simp
  have x0 := HX0.out.cell 0 rfl
  have HY := hid (HX0.out.alloc (.cells (madeCells #[.int .i64 0, .int .i64 0, .slice none 0 0] (n * 3)) 96))
  have y0 := HY.out.cell 0 rfl
  have HF0 := hid (FillSt.start (w.alloc (.cells #[.slice ea n ec, .slice va nv vc, .slice la nv lc] 40)) n)
  rw [hz0] at HF0
  go_wp2_with fail
  clear x0 y0 hmk
  generalize hW0 : w.alloc (.cells #[.slice ea n ec, .slice va nv vc, .slice la nv lc] 40) = W0 at *
  clear hW0
  generalize W0.alloc (.cells (madeCells #[.int .i64 0, .int .i64 0, .slice none 0 0] (n * 3)) 96) = W1 at *
  have HZ0 := hid hz0
  clear hz0
  subst hLA
  go_loopg [17] n (fun N i wr => ∃ q : Nat, q + N = n ∧ i = .int .i64 (q : Int) ∧ Hid (FillSt W0 wr (w.heap.size + 1) n (rsT cs q) (fun _ => .slice none 0 0) (fun _ => [])))
  case atStart => exact ⟨0, by omega, rfl, hid (HF0.out.congr (fun i _ => by simp [rsT]) (fun _ _ => rfl))⟩
  case round =>
    obtain ⟨q, hq, rfl, HST⟩ := hrel
    have HBW := hid (HB0.out.trans (HST.out.below.mono HB0.out.size))
    by_cases hpq : 0 < gk
    · obtain ⟨b, o, rfl, hb, z0, z1, z2⟩ := HER.out q (by omega)
      have c0 := (HBW.out.cell (p := ⟨b, o + q * 3, none⟩) (by show b < _; omega)).trans z0
      have c1 := (HBW.out.cell (p := ⟨b, o + q * 3 + 1, none⟩) (by show b < _; omega)).trans z1
      have c2 := (HBW.out.cell (p := ⟨b, o + q * 3 + 2, none⟩) (by show b < _; omega)).trans z2
      have HRS := hid (rsT_succ cs q)
      clear z0 z1 z2
      generalize (cs.getD q Cv.z).2.length = sz at *
      generalize (cs.getD q Cv.z).1 = x at *
      obtain ⟨xa, xb⟩ := x
      simp only at c0 c1
      have HST2 := hid (HST.out.later ((Below.refl _ _).alloc (Nat.le_refl _) (.cells #[.int .i64 xa, .int .i64 (xb : Int), .int .i64 (sz : Int)] 49)))
      have hbe := BoxN.new wr #[.int .i64 xa, .int .i64 (xb : Int), .int .i64 (sz : Int)] 49
      have f0 := hbe.cell 0 rfl
      have f1 := hbe.cell 1 rfl
      have f2 := hbe.cell 2 rfl
      have r0 := HST2.out.row.cell (i := q * 3) (by omega)
      have r1 := HST2.out.row.cell (i := q * 3 + 1) (by omega)
      have fr0 := HST2.out.row.frozen (q * 3)
      have fr1 := HST2.out.row.frozen (q * 3 + 1)
      clear hbe
      go_wp2
      go_roundg (gk - 1)
      case rel => exact ⟨q + 1, by omega, by go_num, hid ((HST2.out.ref (by omega) (xa, xb)).congr (fun j _ => HRS.out j) (fun _ _ => rfl))⟩
      case measure => omega
    · obtain rfl : q = n := by omega
      have HF1 := hid HST.out
      have hWz := HST.out.below.size
      have hxl0 := HX0.out.lt
      have HXB := hid (HX0.out.below HST.out.below hxl0)
      have xb2 := HXB.out.cell 2 rfl
      clear HF0 HST HY
      go_wp2_with fail
      clear xb2 HXB
      subst hLB
      go_loopg [32] nv (fun N i wr => ∃ (q' : Nat) (f : Nat → Value), q' + N = nv ∧ i = .int .i64 (q' : Int) ∧ Hid (FillSt W0 wr (w.heap.size + 1) q (rsT cs q) f (fun j => (vs.take q').filter (hasL (cs.getD j Cv.z).2))))
      case atStart => exact ⟨0, _, by omega, rfl, hid (HF1.out.congr (fun _ _ => rfl) (fun _ _ => by simp))⟩
      case round =>
        obtain ⟨u, f, hu, rfl, HST⟩ := hrel
        have HBW := hid (HB0.out.trans (HST.out.below.mono HB0.out.size))
        by_cases hpu : 0 < gk
        · obtain ⟨xa, xc, hcell, hrd⟩ := HLR.out u (by omega)
          obtain ⟨b, o, rfl, v0⟩ := hcell wr HBW.out
          obtain ⟨b2, o2, rfl, hb2, s0⟩ := HVR.out u (by omega)
          have HS0 := hid s0
          have HEQ := hid (HEND.out u (by omega))
          have HLTQ := hid (HLT.out (vs.getD u ⟨#[]⟩))
          have HASQ := hid (HASC.out (vs.getD u ⟨#[]⟩))
          have hll := HLL.out (vs.getD u ⟨#[]⟩)
          have htk : (vs.take u).length ≤ u := List.length_take_le _ _
          have HRD := hid hrd
          clear hcell hrd s0
          generalize vs.getD u ⟨#[]⟩ = s at *
          generalize listOfV cs s = X at *
          generalize hxl : X.length = xl at *
          have HXL := hid hxl
          clear hxl
          have HSTEP := hid (fun k (hk : k < xl) j => fillS_step (cs := cs) (vs := vs.take u) (s := s) HASQ.out (by rw [HXL.out]; exact hk) j)
          have HFL := hid (fun k j => fillS_len cs (vs.take u) X s k j)
          have hui : (u : Int) < (nv : Int) := by omega
          have hui2 : decide ((u : Int) < (nv : Int)) = true := decide_eq_true hui
          have hui3 : decide (u < nv) = true := decide_eq_true (by omega)
          obtain ⟨ko, rfl⟩ : ∃ ko, ko = gk := ⟨gk, rfl⟩
          generalize hLC : Code.loop _ = LC
          go_wp2_with fail
          clear v0
          subst hLC
          go_loopg [39] xl (fun N i wr => ∃ (k : Nat) (f : Nat → Value), k + N = xl ∧ i = .int .i64 (k : Int) ∧ Hid (FillSt W0 wr (w.heap.size + 1) q (rsT cs q) f (fillS cs (vs.take u) X s k)))
          case atStart => exact ⟨0, f, by omega, rfl, hid (HST.out.congr (fun _ _ => rfl) (fun j _ => fillS_zero _ _ X s j))⟩
          case round =>
            clear HST HBW
            obtain ⟨k, g, hk, rfl, HSK⟩ := hrel
            by_cases hpk : 0 < gk
            · obtain ⟨pa', pc', epa, -, hpm, hpr⟩ := HRD.out
              obtain ⟨rfl, -, rfl⟩ := Value.slice.inj epa
              obtain ⟨b5, o5, rfl, hb5, hpc5⟩ := hpr (by omega)
              have HBK := hid (HB0.out.trans (HSK.out.below.mono HB0.out.size))
              have hlt := HLTQ.out k (by have := HXL.out; omega)
              have e1 : wr.cell? ⟨b5, o5 + k, none⟩ = some (.int .i64 ((X.getD k 0 : Nat) : Int)) := (HBK.out.cell (p := ⟨b5, o5 + k, none⟩) (by show b5 < _; omega)).trans (hpc5 k (by omega))
              have HSP := hid (HSTEP.out k (by omega))
              have hfl := HFL.out k (X.getD k 0)
              clear epa hpr hpm hpc5
              generalize X.getD k 0 = x at *
              obtain ⟨fa, fc, hf⟩ := HSK.out.form hlt
              have hown0 := HSK.out.own x hlt
              rw [hf] at hown0
              have r2 := HSK.out.row.cell (i := x * 3 + 2) (by omega)
              rw [setF2, hf] at r2
              have fr := HSK.out.row.frozen (x * 3 + 2)
              have hwz := HSK.out.row.lt
              have HF := hid hf
              have hbz := HSK.out.below.size
              have hx0' := (HX0.out.below HSK.out.below hxl0).cell 1 rfl
              have t0 := (HBK.out.cell (p := ⟨b2, o2 + u, none⟩) (by show b2 < _; omega)).trans HS0.out
              generalize hm' : (fillS cs (vs.take u) X s k x).length = m at *
              have HM := hid hm'
              have HOWN0 := hid hown0
              clear hm' hf hown0
              have hd1 : decide ((x : Int) < 0) = false := decide_eq_false (by omega)
              have hd2 : decide (q ≤ x) = false := decide_eq_false (by omega)
              have hd3 : decide ((q : Int) ≤ (x : Int)) = false := decide_eq_false (by omega)
              have hxi : (x : Int) < (q : Int) := by omega
              go_wp2_with fail
              have hapA : ∀ O : Obj, ((wr.alloc O).ownsRow (w.heap.size + 1 + 1) 9 1 (.slice fa m fc) m ((fillS cs (vs.take u) X s k x).map Value.string)) := fun O => HOWN0.out.alloc O
              go_region_law ((refine step_append_form _ rfl (.tmp 49) (.tmp 55) 26 26 rfl (w.heap.size + 1 + 1) 9 9 i0 (.string ⟨#[]⟩) 1 16 Tryz.underlying26 Tryz.underlying26 hi hz0 hz1 hz2 rfl (by decide) (.slice fa m fc) m ((fillS cs (vs.take u) X s k x).map Value.string) rfl (by first | exact hapA _ | exact (hapA _).drew) (some ⟨_, 0, none⟩) 1 1 [.string s] rfl rfl (fun _ => ⟨_, rfl, cell_one_new _ _ _⟩) (smap_one [s]) (by omega) (by unfold maxLen; omega) (by omega) (by simp; omega) ?_); intro p7 cap7 w7 hown7 hg7 hat7 hlt7; have hrw7 := (HSK.out.row.alloc (.cells #[.string s] 9)).of_block (w' := w7) (hg7.block _ (by simp; omega) (fun e => by have := (HOWN0.out.lt _ e.symm).1; omega)); have q1 := hrw7.cell (i := x * 3 + 2) (by omega); have fq1 := hrw7.frozen (x * 3 + 2); have HG7 := hid hg7; have HOWN7 := hid hown7; have HAT7 := hid hat7; clear hown7 hg7 hat7 hrw7)
              all_goals
                have HST6 := hid (HSK.out.later ((Below.refl _ _).alloc (Nat.le_refl _) (.cells #[.string s] 9)))
                have HST7 := hid (HST6.out.push (w' := w7) hlt s (m := m + 1) (by rw [HM.out]) HOWN7.out (by rw [HF.out]; exact ⟨HG7.out.os, HG7.out.tape, HG7.out.output, HG7.out.size, HG7.out.block⟩) (by rw [HF.out]; exact HAT7.out))
                clear q1 fq1 r2 fr e1 hx0' t0 hapA
                go_wp2
                go_roundg (gk - 1)
                case rel => exact ⟨k + 1, _, by omega, by go_num, hid (HST7.out.congr (fun _ _ => rfl) (fun j _ => HSP.out j))⟩
                case measure => omega
            · obtain rfl : k = xl := by omega
              clear hxl0
              go_wp2_with fail
              go_roundg (ko - 1)
              case rel => exact ⟨u + 1, g, by omega, by go_num, hid (HSK.out.congr (fun _ _ => rfl) (fun j hj => HEQ.out j hj))⟩
              case measure => omega
        · obtain rfl : u = nv := by omega
          have hcv := HST.out.done (cs := cs) HN.out (by omega) (fun i hi => by unfold rsT; rw [if_pos hi]) (fun i hi => HFIN.out i hi)
          have HCV := hid hcv
          clear hcv
          go_wp2
          go_ret
          exact ⟨_, rfl, HCV.out, HBW.out⟩

end Go.Proofs.YtabemneoobbnaaaGreatDoor
