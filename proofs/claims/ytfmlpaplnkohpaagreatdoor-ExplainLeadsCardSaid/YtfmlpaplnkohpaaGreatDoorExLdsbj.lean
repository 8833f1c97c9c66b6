/- The walk of ExplainLeads (under way). -/
import Derived.Deep.Cut
import Derived.Deep.CutRange
import Derived.Test.YtfmlpaplnkohpaaGreatDoorExLdsbh
import Derived.Test.YtfmlpaplnkohpaaGreatDoorExLdsbi
set_option linter.unusedVariables false
set_option linter.unusedSimpArgs false
namespace Go.Proofs.YtfmlpaplnkohpaaGreatDoor
open Go.RowKit

theorem dg_at {q : Nat} (h : q < 3) : (#[.string ⟨#[48]⟩, .string ⟨#[49]⟩, .string ⟨#[50]⟩, .string ⟨#[51]⟩] : Array Value)[q]? = some (.string (dgL.getD q ⟨#[]⟩)) := by
  rcases (show q = 0 ∨ q = 1 ∨ q = 2 by omega) with rfl | rfl | rfl <;> rfl

theorem roll_store {B g : Nat} {a b : World} (h : Roll B g a b) {p : Addr} (hp : B ≤ p.block) (v : Value) : Roll B g a (b.setCell p v) :=
  h.trans ⟨rfl, rfl, rfl, by simp, fun k hk _ => Below.heap_setCell b p v k (by omega)⟩
theorem full_mem {A : List Co} {i : Nat} (h : i < A.length) : [opFull i] ∈ filtersL A := List.mem_cons_of_mem _ (List.mem_flatMap.2 ⟨i, List.mem_range.2 h, List.mem_cons_self⟩)
theorem eq_mem {A : List Co} {i : Nat} (h : i < A.length) {c : Cl} (hc : c ∈ (A.getD i Co.z).cells) (hn : c.null = false) : [opEq i c.text] ∈ filtersL A :=
  List.mem_cons_of_mem _ (List.mem_flatMap.2 ⟨i, List.mem_range.2 h, List.mem_cons_of_mem _ (List.mem_map.2 ⟨c.text, (setOfL_mem_iff _ _).2 (List.mem_map.2 ⟨c, List.mem_filter.2 ⟨hc, by simp [hn]⟩, rfl⟩), rfl⟩)⟩)
theorem drew_roll (X : World) (g : Nat) : Roll X.heap.size g X X.drew := (Roll.refl _ _ _).trans ⟨rfl, rfl, rfl, Nat.le_refl _, fun _ _ _ => rfl⟩

set_option maxRecDepth 100000 in
set_option maxHeartbeats 8000000 in
theorem law38_leads (a : Option Addr) (n c : Nat) (w : World) (hA : RdI w w.heap.size a n c) (hT : Tabs w) (hP : Pow w) :
    Calls Tryz.prog 4 #[.slice a n c] w (Ret w (.bool true)) := by
  have HA := hid hA
  have HT := hid hT
  have HP := hid hP
  have hnm : n ≤ maxLen := Nat.le_trans hA.1 hA.2.1
  have HAW := hid (fun W (hW : Below w.heap.size w W) => law38_awake W (hT.below hW))
  clear hA hT hP
  obtain ⟨j0, hj0, hy0, hy1, hy2⟩ := info_parts info_op
  by_cases hg : n ≤ 500
  · have HLI := hid (kit_Light a n c w hnm)
    rw [decide_eq_true hg] at HLI
    go_enter Tryz.func4, Tryz.ntmps4
    generalize hLA : Code.loop _ = LA
    go_wp2_with fail
    with_reducible refine HLI.out.mono ?_
    rintro e w0 ⟨rfl, rfl⟩
    clear HLI
    go_wp2_with fail
    with_reducible refine (kit_Roll a n c _ HA.out hg HP.out).mono ?_
    rintro e w1 ⟨rfl, hd1, hb1⟩
    have HB1 := hid hb1
    have hz1 := hd1.lt
    have HKT : Hid (Calls Tryz.prog 14 #[.pointer (some ⟨w.heap.size, 0, none⟩), .int .i64 1] w1 (KTab w1 w.heap.size 1)) := hid (kit_Table w.heap.size 1 w1 hd1)
    clear hd1 hb1
    go_wp2_with fail
    with_reducible refine HKT.out.mono ?_
    rintro e w2 ⟨⟨id, nm, xs⟩, v, rfl, hid1, hok, hco, hd2, hr2⟩
    simp only at hid1 hok hco
    subst hid1
    have hz2 := hr2.size
    have HB2 := hid (HB1.out.trans (hr2.below (B' := w.heap.size) (Nat.le_refl _) (by omega)))
    have hrd := hco.read
    obtain ⟨va, vc, rfl⟩ := rdCo_len hrd
    have HFW := hid (ktab_few hok)
    have hl64 : xs.length ≤ 64 := by have := hok.2.1; simp only at this; omega
    have HTV := hid (hok.valid (by simp) (by simp))
    simp only at HFW
    have HD3 := hid (hd2.alloc (.cells #[.int .i64 1, .string nm, .slice va xs.length vc] 29))
    have HTB3 := hid (BoxN.new w2 #[.int .i64 1, .string nm, .slice va xs.length vc] 29)
    have HBW3 := hid (HB2.out.alloc (by omega) (.cells #[.int .i64 1, .string nm, .slice va xs.length vc] 29))
    have HRT3 : Hid (RdCo (w2.alloc (.cells #[.int .i64 1, .string nm, .slice va xs.length vc] 29)) (fun b => w1.heap.size ≤ b ∧ b < w2.heap.size) (.slice va xs.length vc) xs) := hid (hrd.keep fun p hp => World.cell?_alloc_lt _ _ _ hp.2)
    have hz3 : (w2.alloc (.cells #[.int .i64 1, .string nm, .slice va xs.length vc] 29)).heap.size = w2.heap.size + 1 := by simp
    have hl3 : xs.length ≤ 3 := hok.2.1
    have HND := hid (ren_nodup hok)
    have HCV := hid (ren_cols hok)
    have HCO3 := hid (hco.alloc (.cells #[.int .i64 1, .string nm, .slice va xs.length vc] 29))
    have HOKK := hid hok
    simp only at HND HCV
    clear hrd hco hd2 hr2 hok HKT HP HA HRT3
    obtain ⟨L, hxl⟩ : ∃ L, L = xs.length := ⟨_, rfl⟩
    rw [← hxl] at HD3 HTB3 HBW3 hz3 hl64 hl3 HCO3
    rw [← hxl]
    have HXE := hid hxl.symm
    clear hxl
    obtain ⟨W3, hW3⟩ : ∃ W3, W3 = w2.alloc (.cells #[.int .i64 1, .string nm, .slice va L vc] 29) := ⟨_, rfl⟩
    have x2 := HTB3.out.cell 2 rfl
    rw [← hW3] at HD3 HTB3 HBW3 hz3 HCO3
    have hz3a := Nat.le_of_eq hz3
    have hz3b := Nat.le_of_eq hz3.symm
    clear hz3
    have HCO0 : Hid (CoSt W3 w1.heap.size 39 (.slice va L vc) (renTo xs 0)) := hid (by rw [renTo_zero]; exact HCO3.out)
    clear HCO3
    go_wp2_with fail
    rw [← hW3]
    clear hW3 x2
    subst hLA
    go_loopg [33] L (fun N i wr => ∃ q : Nat, i = .int .i64 (q : Int) ∧ q + N = L ∧ Hid (Below w1.heap.size W3 wr) ∧ Hid (BoxN wr w2.heap.size 29 #[.int .i64 1, .string nm, .slice va L vc]) ∧ Hid (CoSt wr w1.heap.size 39 (.slice va L vc) (renTo xs q)))
    case atStart => exact ⟨0, rfl, by omega, hid (Below.refl _ _), HTB3, HCO0⟩
    case round =>
      obtain ⟨q, rfl, hq, HB, HTB, HCO⟩ := hrel
      by_cases hp : 0 < gk
      · have hqL : q < L := by omega
        obtain ⟨cv, hnest⟩ := HCO.out
        have hrow := hnest.row
        rw [renTo_len, HXE.out] at hrow
        obtain ⟨g, cap, hg2, hgb, hglt⟩ := hrow.form (by omega)
        obtain ⟨rfl, -, rfl⟩ := Value.slice.inj hg2
        have k0 := (ycells hrow hqL).1
        have hfz := hrow.frozenAt (q * 2)
        simp only [coF, two] at k0
        rw [renTo_getD _ _ (by rw [HXE.out]; exact hqL), if_neg (by omega)] at k0
        have HPUT := hid (ren_put HCO.out HXE.out hqL)
        have hgt : g ≠ w2.heap.size := by
          have h1 := hrow.cellAt (q * 2) (by omega)
          intro e
          rw [e] at hrow
          obtain ⟨-, h2⟩ := hrow
          rcases h2 with ⟨e2, -⟩ | ⟨g2, cap2, cur2, e2, -, hc2, -⟩
          · cases e2
          · obtain ⟨e3, -, -⟩ := Value.slice.inj e2
            injection e3 with e4
            injection e4 with e5
            rw [← e5] at hc2
            have h3 := HTB.out
            unfold BoxN at h3
            rw [h3] at hc2
            cases hc2
        have hnm2 : (renC (xs.getD q Co.z) q).name = (xs.getD q Co.z).name ++ dgL.getD q ⟨#[]⟩ := rfl
        rw [hnm2] at HPUT
        have hdg := (BoxN.new wr #[.string ⟨#[48]⟩, .string ⟨#[49]⟩, .string ⟨#[50]⟩, .string ⟨#[51]⟩] 9).cell q (dg_at (by omega))
        have x2 := HTB.out.cell 2 rfl
        have HTB4 := hid (HTB.out.alloc (.cells #[.string ⟨#[48]⟩, .string ⟨#[49]⟩, .string ⟨#[50]⟩, .string ⟨#[51]⟩] 9))
        have x2' := HTB4.out.cell 2 rfl
        have k0' := (World.cell?_alloc_lt wr (.cells #[.string ⟨#[48]⟩, .string ⟨#[49]⟩, .string ⟨#[50]⟩, .string ⟨#[51]⟩] 9) ⟨g, q * 2, none⟩ hglt).trans k0
        have hfz' := (hrow.alloc (.cells #[.string ⟨#[48]⟩, .string ⟨#[49]⟩, .string ⟨#[50]⟩, .string ⟨#[51]⟩] 9)).frozenAt (q * 2)
        have HB4 := hid (HB.out.alloc (by have := HB.out.size; omega) (.cells #[.string ⟨#[48]⟩, .string ⟨#[49]⟩, .string ⟨#[50]⟩, .string ⟨#[51]⟩] 9))
        have hqi : (q : Int) < (L : Int) := by omega
        have hq4 : (q : Int) < 4 := by omega
        have hrw := hgb
        have hsz : ¬ (9223372036854775807 < (xs.getD q Co.z).name.size + (dgL.getD q ⟨#[]⟩).size) := by
          obtain ⟨-, -, m, -, hc⟩ := HOKK.out
          have h1 := (kcolNames_ok _ (hc _ (getD_mem (l := xs) (i := q) (by rw [HXE.out]; exact hqL) Co.z)).1).1
          have h2 : (dgL.getD q ⟨#[]⟩).size ≤ 1 := by
            rcases (show q = 0 ∨ q = 1 ∨ q = 2 by omega) with rfl | rfl | rfl <;> decide
          omega
        clear hg2 hnest hrow hnm2
        generalize (xs.getD q Co.z).name = xn at *
        generalize dgL.getD q ⟨#[]⟩ = dg at *
        go_upto_region 8 with fail
        go_region
        have HPD := hid (HPUT.out.alloc (.cells #[.string ⟨#[48]⟩, .string ⟨#[49]⟩, .string ⟨#[50]⟩, .string ⟨#[51]⟩] 9))
        have HPE := hid (HPD.out.roll (drew_roll _ w.heap.size) (Nat.le_refl _) (by omega))
        have HBF := hid (((HB.out.setCell (p := ⟨g, q * 2, none⟩) hrw (.string (xn ++ dg))).alloc (by have := HB.out.size; simp; omega) (.cells #[.string ⟨#[48]⟩, .string ⟨#[49]⟩, .string ⟨#[50]⟩, .string ⟨#[51]⟩] 9)).drew)
        have HTF := hid (((HTB.out.other (p := ⟨g, q * 2, none⟩) hgt (.string (xn ++ dg))).alloc (.cells #[.string ⟨#[48]⟩, .string ⟨#[49]⟩, .string ⟨#[50]⟩, .string ⟨#[51]⟩] 9)).drewN 1)
        clear k0 k0' hfz hfz' x2 x2' hdg
        go_wp2_with fail
        go_roundg (gk - 1)
        case rel => exact ⟨q + 1, by go_num, by omega, HBF, HTF, HPE⟩
        case measure => omega
      · obtain rfl : gk = 0 := by omega
        obtain rfl : q = L := by omega
        have HD := hid (HD3.out.below HB.out hz1)
        have hbw : Below w.heap.size w wr := HBW3.out.trans (HB.out.mono (by omega))
        have HBW := hid hbw
        have hco : CoSt wr w1.heap.size 39 (.slice va q vc) (renL xs) := by
          have h := HCO.out
          have e := renTo_all xs
          rw [HXE.out] at e
          rw [e] at h
          exact h
        have HRD := hid (hco.read.more (S' := (· < wr.heap.size)) fun b hb => hb.2)
        have HRG := hid hco.read
        clear hbw hco HCO HD3 HB HCO0 HTB3
        have hAl : (renL xs).length = q := by rw [renL_len, HXE.out]
        have HAL := hid hAl
        clear hAl
        generalize renL xs = A at *
        have x0 := HTB.out.cell 0 rfl
        have x1 := HTB.out.cell 1 rfl
        have x2 := HTB.out.cell 2 rfl
        by_cases hL : q = 0
        · subst hL
          go_wp2_with fail
          with_reducible refine (HAW.out wr HBW.out).mono ?_
          rintro e w4 ⟨rfl, hb4⟩
          have HF := hid (HBW.out.trans (hb4.mono HBW.out.size))
          go_wp2
          go_ret
          exact ⟨rfl, HF.out⟩
        · have hLi : ((q : Int) == 0) = false := by simp; omega
          have hL1 : ¬ (q : Int) = 0 := by omega
          obtain ⟨X, hX⟩ : ∃ X, X = wr.alloc (.cells #[.int .i64 1, .string nm, .slice va q vc] 29) := ⟨_, rfl⟩
          have hsx := (Below.refl wr.heap.size wr).alloc (Nat.le_refl _) (.cells #[.int .i64 1, .string nm, .slice va q vc] 29)
          have hbx := BoxN.new wr #[.int .i64 1, .string nm, .slice va q vc] 29
          rw [← hX] at hsx hbx
          have htx := HTB.out.below hsx HTB.out.lt
          have hrx : RdCo X (fun b => w1.heap.size ≤ b ∧ b < wr.heap.size) (.slice va q vc) A := HRG.out.keep fun p hp => hsx.cell (p := p) hp.2
          have hbl := hbx.lt
          have htl := HTB.out.lt
          have HDX := hid (HD.out.below hsx HD.out.lt)
          have HBWX := hid (HBW.out.trans (hsx.mono HBW.out.size))
          have HTW := hid (fun W (hr : Roll X.heap.size w.heap.size X W) => (htx.roll hr htx.lt (by omega) : BoxN W w2.heap.size 29 #[.int .i64 1, .string nm, .slice va q vc]))
          have HB7 := hid (fun W (hr : Roll X.heap.size w.heap.size X W) => (hbx.roll hr hbx.lt (by omega) : BoxN W wr.heap.size 29 #[.int .i64 1, .string nm, .slice va q vc]))
          have HRW := hid (fun W (hr : Roll X.heap.size w.heap.size X W) => (hrx.keep fun p hp => hr.cell (p := p) (by have := hp.2; omega) (by have := hp.1; omega) : RdCo W (fun b => w1.heap.size ≤ b ∧ b < wr.heap.size) (.slice va q vc) A))
          have HTY := hid (fun W (hr : Roll X.heap.size w.heap.size X W) => (HBWX.out.trans (hr.below (B' := w.heap.size) (Nat.le_refl _) (by omega)) : Below w.heap.size w W))
          clear hsx hbx htx hrx HRG HTB HRD HD HBW
          go_wp2_with fail
          rw [← hX]
          clear hX x0 x1 x2
          with_reducible refine (kit_Next w.heap.size 3 X HDX.out (by omega) (by omega)).mono ?_
          rintro e w15 ⟨k, rfl, hk, hd15, hr15, -⟩
          have HR15 := hid hr15
          have HD15 := hid hd15
          have hz15 := hr15.size
          clear hd15 hr15
          go_upto_if 59 with fail
          go_cut [6, 8, 59] from 60 to 96 (fun s6 _ _ wx => ∃ (os : List Po) (a' : Option Addr) (c' : Nat), s6 = .slice a' os.length c' ∧ Hid (os ∈ filtersL A) ∧ Hid (PoSt wx X.heap.size 47 s6 os) ∧ Hid (Roll X.heap.size w.heap.size X wx) ∧ Hid (KDice wx w.heap.size))
          case first =>
            by_cases hk0 : k = 0
            · subst hk0
              go_wp2_with fail
              go_meet
              exact ⟨[], none, 0, rfl, hid (by simp [filtersL]), hid (PoSt.start (by omega)), HR15, HD15⟩
            · have hkp : (0 : Int) < (k : Int) := by omega
              have hkd : decide ((0 : Int) < (k : Int)) = true := decide_eq_true hkp
              have hkn : 0 < k := by omega
              have x2 := (HTW.out w15 HR15.out).cell 2 rfl
              go_wp2_with fail
              with_reducible refine (kit_Next w.heap.size (q : Int) w15 HD15.out (by omega) (by omega)).mono ?_
              rintro e w16 ⟨i, rfl, hi, hd16, hr16, -⟩
              have hiq : i < q := by omega
              have HR16 := hid (HR15.out.trans (hr16.mono HR15.out.size))
              have HD16 := hid hd16
              have hz16 := hr16.size
              clear x2 hd16 hr16 HR15 HD15
              have hz17 : (w16.alloc (.cells #[.int .i64 2, .int .i64 (i : Int), .string ⟨#[]⟩, .slice none 0 0] 47)).heap.size = w16.heap.size + 1 := by simp
              have HR17 := hid (HR16.out.alloc (by omega) (.cells #[.int .i64 2, .int .i64 (i : Int), .string ⟨#[]⟩, .slice none 0 0] 47))
              have HD17 := hid (HD16.out.alloc (.cells #[.int .i64 2, .int .i64 (i : Int), .string ⟨#[]⟩, .slice none 0 0] 47))
              have HO17 := hid (BoxN.new w16 #[.int .i64 2, .int .i64 (i : Int), .string ⟨#[]⟩, .slice none 0 0] 47)
              obtain ⟨w17, hw17⟩ : ∃ w17, w17 = w16.alloc (.cells #[.int .i64 2, .int .i64 (i : Int), .string ⟨#[]⟩, .slice none 0 0] 47) := ⟨_, rfl⟩
              rw [← hw17] at HR17 HD17 HO17 hz17
              have hz17a := Nat.le_of_eq hz17
              have hz17b := Nat.le_of_eq hz17.symm
              clear hz17
              obtain ⟨b, o, c3, uv, e3, hb, hkid, k0, k1⟩ := co_at (HRW.out w17 HR17.out) (q := i) (by rw [HAL.out]; exact hiq)
              rw [HAL.out] at e3
              obtain ⟨rfl, -, rfl⟩ := Value.slice.inj e3
              obtain ⟨ca, ck, rfl⟩ : ∃ a c, uv = .slice a (A.getD i Co.z).cells.length c := by
                obtain ⟨a, c, e, -⟩ := hkid
                exact ⟨a, c, e⟩
              have HKID := hid hkid
              have HC0 := hid (fun (h : 0 < (A.getD i Co.z).cells.length) => cl_at hkid (k := 0) h)
              have HCM := hid (fun (h : 0 < (A.getD i Co.z).cells.length) => (getD_mem h Cl.z : (A.getD i Co.z).cells.getD 0 Cl.z ∈ (A.getD i Co.z).cells))
              generalize (A.getD i Co.z).cells.length = cl at *
              generalize (A.getD i Co.z).name = cname at *
              have x2 := (HTW.out w17 HR17.out).cell 2 rfl
              have o0 := HO17.out.cell 0 rfl
              have o1 := HO17.out.cell 1 rfl
              have o2 := HO17.out.cell 2 rfl
              have o3 := HO17.out.cell 3 rfl
              clear e3 hb hkid
              rw [hw17] at x2 k0 k1 o0 o1 o2 o3
              go_upto_region 19 with fail
              rw [← hw17]
              clear hw17
              have HIA : Hid (i < A.length) := hid (by rw [HAL.out]; exact hiq)
              have HEM := hid (fun c (hc : c ∈ (A.getD i Co.z).cells) hn => eq_mem (c := c) HIA.out hc hn)
              clear HKID x2 k0 k1
              have p0 := HO17.out.cell 0 rfl
              have p1 := HO17.out.cell 1 rfl
              have p2 := HO17.out.cell 2 rfl
              have p3 := HO17.out.cell 3 rfl
              clear o0 o1 o2 o3
              by_cases hk2 : k = 2
              · subst hk2
                by_cases hcl : 0 < cl
                · have hcli : (0 : Int) < (cl : Int) := by omega
                  obtain ⟨b5, o5, c5, e5, hb5, m0, m1⟩ := HC0.out hcl
                  obtain ⟨rfl, -, rfl⟩ := Value.slice.inj e5
                  have hcm := HCM.out hcl
                  have HEM1 := hid (HEM.out _ hcm)
                  clear e5 hb5 hcm HC0 HCM HEM
                  simp only [Nat.zero_mul, Nat.add_zero] at m0 m1
                  generalize (A.getD i Co.z).cells.getD 0 Cl.z = cc at *
                  obtain ⟨cn, ct⟩ := cc
                  simp only at m0 m1 HEM1
                  cases cn with
                  | true =>
                    have hnew := BoxN.new w17 #[.int .i64 2, .int .i64 (i : Int), .string ⟨#[]⟩, .slice none 0 0] 47
                    have HNW := hid hnew
                    have HRL := hid (HR17.out.alloc (by omega) (.cells #[.int .i64 2, .int .i64 (i : Int), .string ⟨#[]⟩, .slice none 0 0] 47))
                    have HDL := hid (HD17.out.alloc (.cells #[.int .i64 2, .int .i64 (i : Int), .string ⟨#[]⟩, .slice none 0 0] 47))
                    clear hnew
                    go_wp2_with (at_builtin; refine wpList_append_form _ rfl _ _ 32 32 rfl X.heap.size 47 47 j0 (.agg #[.int .i64 0, .int .i64 0, .string ⟨#[]⟩, .slice none 0 0]) 4 56 Tryz.underlying32 Tryz.underlying32 hj0 hy0 hy1 hy2 rfl (by decide) (.slice none 0 0) 0 [] rfl (World.ownsRow_nil _ _ _ _) (some ⟨_, 0, none⟩) 1 1 [.int .i64 2, .int .i64 (i : Int), .string ⟨#[]⟩, .slice none 0 0] rfl rfl (fun _ => ⟨_, rfl, World.news_of_block HNW.out⟩) (by intro u hu; simp at hu; rcases hu with rfl | rfl | rfl | rfl <;> rfl) (by omega) (by unfold maxLen; omega) (by omega) (by simp; omega) ?_; intro p8 cap8 w8 hown8 hg8 hat8 hlt8; have HG8 := hid hg8; have HOWN8 := hid hown8; have HAT8 := hid hat8; clear hown8 hg8 hat8)
                    go_wp2_with fail
                    have hps := (PoSt.start (w := w17.alloc (.cells #[.int .i64 2, .int .i64 (i : Int), .string ⟨#[]⟩, .slice none 0 0] 47)) (base := X.heap.size) (e := 47) (by simp; omega)).push (L := []) (World.ownsRow_nil _ _ _ _) (o := opFull i) (u := .slice none 0 0) (n := 1) rfl HOWN8.out HG8.out HAT8.out (rdKs_nil _ _)
                    have hrg := HRL.out.grown HG8.out (by simp; omega) (fun k hk => by cases hk)
                    have hdg : KDice w8 w.heap.size := HDL.out.keep fun k hk => HG8.out.block k (by simp; omega) (by intro e; cases e)
                    go_meet
                    exact ⟨[opFull i], some ⟨p8, 0, none⟩, cap8, rfl, hid (full_mem (by rw [HAL.out]; exact hiq)), hid hps, hid hrg, hid hdg⟩
                  | false =>
                    have f0 := HO17.out.frozen 0
                    have f1 := HO17.out.frozen 1
                    have f2 := HO17.out.frozen 2
                    have f3 := HO17.out.frozen 3
                    have hxw : X.heap.size ≤ w16.heap.size := by omega
                    have HO18 := hid ((((HO17.out.set 0 (.int .i64 1)).set 1 (.int .i64 (i : Int))).set 2 (.string ct)).set 3 (.slice none 0 0))
                    have HR18 := hid (roll_store (roll_store (roll_store (roll_store HR17.out (p := ⟨w16.heap.size, 0, none⟩) hxw (.int .i64 1)) (p := ⟨w16.heap.size, 1, none⟩) hxw (.int .i64 (i : Int))) (p := ⟨w16.heap.size, 2, none⟩) hxw (.string ct)) (p := ⟨w16.heap.size, 3, none⟩) hxw (.slice none 0 0))
                    have hgw : w.heap.size < w16.heap.size := by omega
                    have HD18 := hid ((((HD17.out.store (p := ⟨w16.heap.size, 0, none⟩) hgw (.int .i64 1)).store (p := ⟨w16.heap.size, 1, none⟩) hgw (.int .i64 (i : Int))).store (p := ⟨w16.heap.size, 2, none⟩) hgw (.string ct)).store (p := ⟨w16.heap.size, 3, none⟩) hgw (.slice none 0 0))
                    have s0 := HO18.out.cell 0 rfl
                    have s1 := HO18.out.cell 1 rfl
                    have s2 := HO18.out.cell 2 rfl
                    have s3 := HO18.out.cell 3 rfl
                    have HMEM := hid (HEM1.out rfl)
                    go_upto_region 21 with fail
                    have hz18 : ((((w17.setCell ⟨w16.heap.size, 0, none⟩ (.int .i64 1)).setCell ⟨w16.heap.size, 1, none⟩ (.int .i64 (i : Int))).setCell ⟨w16.heap.size, 2, none⟩ (.string ct)).setCell ⟨w16.heap.size, 3, none⟩ (.slice none 0 0)).heap.size = w17.heap.size := by simp
                    have hz18a := Nat.le_of_eq hz18
                    have hz18b := Nat.le_of_eq hz18.symm
                    clear hz18 p0 p1 p2 p3 f0 f1 f2 f3 m0 m1 HO17
                    generalize (((w17.setCell ⟨w16.heap.size, 0, none⟩ (.int .i64 1)).setCell ⟨w16.heap.size, 1, none⟩ (.int .i64 (i : Int))).setCell ⟨w16.heap.size, 2, none⟩ (.string ct)).setCell ⟨w16.heap.size, 3, none⟩ (.slice none 0 0) = w18 at *
                    have hnew := BoxN.new (w18) #[.int .i64 1, .int .i64 (i : Int), .string ct, .slice none 0 0] 47
                    have HNW := hid hnew
                    have HRL := hid (HR18.out.alloc (by omega) (.cells #[.int .i64 1, .int .i64 (i : Int), .string ct, .slice none 0 0] 47))
                    have HDL := hid (HD18.out.alloc (.cells #[.int .i64 1, .int .i64 (i : Int), .string ct, .slice none 0 0] 47))
                    clear hnew
                    go_wp2_with (at_builtin; refine wpList_append_form _ rfl _ _ 32 32 rfl X.heap.size 47 47 j0 (.agg #[.int .i64 0, .int .i64 0, .string ⟨#[]⟩, .slice none 0 0]) 4 56 Tryz.underlying32 Tryz.underlying32 hj0 hy0 hy1 hy2 rfl (by decide) (.slice none 0 0) 0 [] rfl (World.ownsRow_nil _ _ _ _) (some ⟨_, 0, none⟩) 1 1 [.int .i64 1, .int .i64 (i : Int), .string ct, .slice none 0 0] rfl rfl (fun _ => ⟨_, rfl, World.news_of_block HNW.out⟩) (by intro u hu; simp at hu; rcases hu with rfl | rfl | rfl | rfl <;> rfl) (by omega) (by unfold maxLen; omega) (by omega) (by simp; omega) ?_; intro p8 cap8 w8 hown8 hg8 hat8 hlt8; have HG8 := hid hg8; have HOWN8 := hid hown8; have HAT8 := hid hat8; clear hown8 hg8 hat8)
                    go_wp2_with fail
                    have hps := (PoSt.start (w := (w18).alloc (.cells #[.int .i64 1, .int .i64 (i : Int), .string ct, .slice none 0 0] 47)) (base := X.heap.size) (e := 47) (by simp; omega)).push (L := []) (World.ownsRow_nil _ _ _ _) (o := opEq i ct) (u := .slice none 0 0) (n := 1) rfl HOWN8.out HG8.out HAT8.out (rdKs_nil _ _)
                    have hrg := HRL.out.grown HG8.out (by simp; omega) (fun k hk => by cases hk)
                    have hdg : KDice w8 w.heap.size := HDL.out.keep fun k hk => HG8.out.block k (by simp; omega) (by intro e; cases e)
                    go_meet
                    exact ⟨[opEq i ct], some ⟨p8, 0, none⟩, cap8, rfl, hid HMEM.out, hid hps, hid hrg, hid hdg⟩
                · obtain rfl : cl = 0 := by omega
                  have hnew := BoxN.new w17 #[.int .i64 2, .int .i64 (i : Int), .string ⟨#[]⟩, .slice none 0 0] 47
                  have HNW := hid hnew
                  have HRL := hid (HR17.out.alloc (by omega) (.cells #[.int .i64 2, .int .i64 (i : Int), .string ⟨#[]⟩, .slice none 0 0] 47))
                  have HDL := hid (HD17.out.alloc (.cells #[.int .i64 2, .int .i64 (i : Int), .string ⟨#[]⟩, .slice none 0 0] 47))
                  clear hnew
                  go_wp2_with (at_builtin; refine wpList_append_form _ rfl _ _ 32 32 rfl X.heap.size 47 47 j0 (.agg #[.int .i64 0, .int .i64 0, .string ⟨#[]⟩, .slice none 0 0]) 4 56 Tryz.underlying32 Tryz.underlying32 hj0 hy0 hy1 hy2 rfl (by decide) (.slice none 0 0) 0 [] rfl (World.ownsRow_nil _ _ _ _) (some ⟨_, 0, none⟩) 1 1 [.int .i64 2, .int .i64 (i : Int), .string ⟨#[]⟩, .slice none 0 0] rfl rfl (fun _ => ⟨_, rfl, World.news_of_block HNW.out⟩) (by intro u hu; simp at hu; rcases hu with rfl | rfl | rfl | rfl <;> rfl) (by omega) (by unfold maxLen; omega) (by omega) (by simp; omega) ?_; intro p8 cap8 w8 hown8 hg8 hat8 hlt8; have HG8 := hid hg8; have HOWN8 := hid hown8; have HAT8 := hid hat8; clear hown8 hg8 hat8)
                  go_wp2_with fail
                  have hps := (PoSt.start (w := w17.alloc (.cells #[.int .i64 2, .int .i64 (i : Int), .string ⟨#[]⟩, .slice none 0 0] 47)) (base := X.heap.size) (e := 47) (by simp; omega)).push (L := []) (World.ownsRow_nil _ _ _ _) (o := opFull i) (u := .slice none 0 0) (n := 1) rfl HOWN8.out HG8.out HAT8.out (rdKs_nil _ _)
                  have hrg := HRL.out.grown HG8.out (by simp; omega) (fun k hk => by cases hk)
                  have hdg : KDice w8 w.heap.size := HDL.out.keep fun k hk => HG8.out.block k (by simp; omega) (by intro e; cases e)
                  go_meet
                  exact ⟨[opFull i], some ⟨p8, 0, none⟩, cap8, rfl, hid (full_mem (by rw [HAL.out]; exact hiq)), hid hps, hid hrg, hid hdg⟩
              · have hk2n : ((k : Int) == 2) = false := by simp; omega
                have hnew := BoxN.new w17 #[.int .i64 2, .int .i64 (i : Int), .string ⟨#[]⟩, .slice none 0 0] 47
                have HNW := hid hnew
                have HRL := hid (HR17.out.alloc (by omega) (.cells #[.int .i64 2, .int .i64 (i : Int), .string ⟨#[]⟩, .slice none 0 0] 47))
                have HDL := hid (HD17.out.alloc (.cells #[.int .i64 2, .int .i64 (i : Int), .string ⟨#[]⟩, .slice none 0 0] 47))
                clear hnew
                go_wp2_with (at_builtin; refine wpList_append_form _ rfl _ _ 32 32 rfl X.heap.size 47 47 j0 (.agg #[.int .i64 0, .int .i64 0, .string ⟨#[]⟩, .slice none 0 0]) 4 56 Tryz.underlying32 Tryz.underlying32 hj0 hy0 hy1 hy2 rfl (by decide) (.slice none 0 0) 0 [] rfl (World.ownsRow_nil _ _ _ _) (some ⟨_, 0, none⟩) 1 1 [.int .i64 2, .int .i64 (i : Int), .string ⟨#[]⟩, .slice none 0 0] rfl rfl (fun _ => ⟨_, rfl, World.news_of_block HNW.out⟩) (by intro u hu; simp at hu; rcases hu with rfl | rfl | rfl | rfl <;> rfl) (by omega) (by unfold maxLen; omega) (by omega) (by simp; omega) ?_; intro p8 cap8 w8 hown8 hg8 hat8 hlt8; have HG8 := hid hg8; have HOWN8 := hid hown8; have HAT8 := hid hat8; clear hown8 hg8 hat8)
                go_wp2_with fail
                have hps := (PoSt.start (w := w17.alloc (.cells #[.int .i64 2, .int .i64 (i : Int), .string ⟨#[]⟩, .slice none 0 0] 47)) (base := X.heap.size) (e := 47) (by simp; omega)).push (L := []) (World.ownsRow_nil _ _ _ _) (o := opFull i) (u := .slice none 0 0) (n := 1) rfl HOWN8.out HG8.out HAT8.out (rdKs_nil _ _)
                have hrg := HRL.out.grown HG8.out (by simp; omega) (fun k hk => by cases hk)
                have hdg : KDice w8 w.heap.size := HDL.out.keep fun k hk => HG8.out.block k (by simp; omega) (by intro e; cases e)
                go_meet
                exact ⟨[opFull i], some ⟨p8, 0, none⟩, cap8, rfl, hid (full_mem (by rw [HAL.out]; exact hiq)), hid hps, hid hrg, hid hdg⟩
          case rest =>
            obtain ⟨f, a1, c1, rfl, HFM, HPO, HR20, HD20⟩ := hcut
            obtain ⟨w20, rfl⟩ : ∃ w20, w20 = wc := ⟨wc, rfl⟩
            have hz20 := HR20.out.size
            go_wp2_with fail
            with_reducible refine (kit_Next w.heap.size 2 w20 HD20.out (by omega) (by omega)).mono ?_
            rintro e w21 ⟨k2, rfl, hk2, hd21, hr21, -⟩
            have HR21 := hid (HR20.out.trans (hr21.mono hz20))
            have HD21 := hid hd21
            have HPO21 := hid (HPO.out.roll hr21 (Nat.le_refl _) (by omega))
            have hz21 := HR21.out.size
            clear hd21 hr21 HR20 HD20 HPO hz20
            go_upto_if 99 with fail
            go_cut [6, 99] from 100 to 125 (fun s6 _ wx => ∃ (p : List Po) (m : Nat) (a' : Option Addr) (c' : Nat), s6 = .slice a' (f ++ p).length c' ∧ Hid (ProjW q p m) ∧ Hid (PoSt wx X.heap.size 47 s6 (f ++ p)) ∧ Hid (Roll X.heap.size w.heap.size X wx) ∧ Hid (KDice wx w.heap.size))
            case first =>
              by_cases hk20 : k2 = 0
              · subst hk20
                have x2 := (HTW.out w21 HR21.out).cell 2 rfl
                generalize hLC : Code.loop _ = LC
                go_wp2_with fail
                subst hLC
                clear x2
                obtain ⟨w21o, rfl⟩ : ∃ w, w = w21 := ⟨w21, rfl⟩
                go_loopg [103, 12, 13] q (fun N j s12 s13 W => ∃ (t : Nat) (ks : List Nat) (al : Bool) (a' : Option Addr) (c' : Nat), j = .int .i64 (t : Int) ∧ t + N = q ∧ s12 = .slice a' ks.length c' ∧ s13 = .bool al ∧ ks.length ≤ t ∧ (al = false → ks.length < t) ∧ (∀ k ∈ ks, k < t) ∧ Hid (W.ownsRow w21o.heap.size 3 1 (.slice a' ks.length c') ks.length (ks.map fun (k : Nat) => Value.int .i64 (k : Int))) ∧ Hid (Roll w21o.heap.size w.heap.size w21o W) ∧ Hid (KDice W w.heap.size))
                case atStart => exact ⟨0, [], true, none, 0, rfl, by omega, rfl, rfl, by simp, by simp, by simp, hid (World.ownsRow_nil _ _ _ _), hid (Roll.refl _ _ _), HD21⟩
                case round =>
                  obtain ⟨t, ks, al, a5, c5, rfl, ht, rfl, rfl, hkl, hal, hkk, HKR, HRK, HDK⟩ := hrel
                  by_cases hp2 : 0 < gk
                  · have hz := HRK.out.size
                    go_wp2_with fail
                    with_reducible refine (kit_Next w.heap.size 3 wr HDK.out (by omega) (by omega)).mono ?_
                    rintro e wn ⟨kn, rfl, hkn, hdn, hrn, -⟩
                    have HRN := hid (HRK.out.trans (hrn.mono hz))
                    have HDN := hid hdn
                    have HKN := hid (own_roll HKR.out hrn (Nat.le_refl _) (by omega))
                    have hzn := hrn.size
                    clear hdn hrn HKR HRK HDK
                    by_cases hkn0 : kn = 0
                    · subst hkn0
                      go_wp2_with fail
                      go_roundg (gk - 1)
                      case rel => exact ⟨t + 1, ks, false, a5, c5, by go_num, by omega, rfl, rfl, by omega, fun _ => by omega, fun k hk => by have := hkk k hk; omega, HKN, HRN, HDN⟩
                      case measure => omega
                    · obtain ⟨i0, hi0, hw0, hw1, hw2⟩ := info_parts info_int0
                      have hnew := BoxN.new wn #[.int .i64 (t : Int)] 3
                      have HNW := hid hnew
                      have HK2 := hid (HKN.out.alloc (.cells #[.int .i64 (t : Int)] 3))
                      have hlo2 := HRN.out.size
                      have HRL := hid (HRN.out.alloc (by omega) (.cells #[.int .i64 (t : Int)] 3))
                      have HDL := hid (HDN.out.alloc (.cells #[.int .i64 (t : Int)] 3))
                      have hk1 : (0 : Int) < (kn : Int) := by omega
                      have hk1n : 0 < kn := by omega
                      clear hnew
                      go_wp2_with (at_builtin; refine wpList_append_form _ rfl _ _ 22 22 rfl w21o.heap.size 3 3 i0 (.int .i64 0) 1 8 Tryz.underlying22 Tryz.underlying22 hi0 hw0 hw1 hw2 rfl (by decide) (.slice a5 ks.length c5) ks.length _ rfl HK2.out (some ⟨_, 0, none⟩) 1 1 [.int .i64 (t : Int)] rfl rfl (fun _ => ⟨_, rfl, World.news_of_block HNW.out⟩) (by intro u hu; simp at hu; subst hu; rfl) (by omega) (by unfold maxLen; omega) (by omega) (by simp; omega) ?_; intro p8 cap8 w8 hown8 hg8 hat8 hlt8; have HG8 := hid hg8; have HOWN8 := hid hown8; clear hown8 hg8 hat8)
                      go_wp2_with fail
                      have hrg := HRL.out.grown HG8.out (by simp; omega) (fun k hk => (HK2.out.lt k hk).1)
                      have hdg : KDice w8 w.heap.size := HDL.out.keep fun k hk => HG8.out.block k (by simp; omega) (by intro e; have := (HK2.out.lt k e.symm).1; omega)
                      go_roundg (gk - 1)
                      case rel =>
                        refine ⟨t + 1, ks ++ [t], al, some ⟨p8, 0, none⟩, cap8, by go_num, by omega, by simp, rfl, by simp; omega, fun h => by have := hal h; simp; omega, fun k hk => ?_, hid (by simpa using HOWN8.out), hid hrg, hid hdg⟩
                        rcases List.mem_append.1 hk with hk | hk
                        · have := hkk k hk; omega
                        · have := List.mem_singleton.1 hk; omega
                      case measure => omega
                  · obtain rfl : gk = 0 := by omega
                    obtain rfl : q = t := by omega
                    have hzr := HRK.out.size
                    have HPOR := hid (HPO21.out.roll HRK.out (Nat.le_refl _) (by omega))
                    have HRR := hid (HR21.out.trans (HRK.out.mono hz21))
                    cases al with
                    | true =>
                      go_wp2_with fail
                      go_meet
                      exact ⟨[], q, a1, c1, by rw [List.append_nil], hid (.inl ⟨rfl, rfl⟩), hid (by rw [List.append_nil]; exact HPOR.out), HRR, HDK⟩
                    | false =>
                      by_cases hks0 : 0 < ks.length
                      · have hksi : (0 : Int) < (ks.length : Int) := by omega
                        have hksd : decide ((0 : Int) < (ks.length : Int)) = true := decide_eq_true hksi
                        have hlt := hal rfl
                        have HPJ2 : Hid (ProjW q [opProj ks] ks.length) := hid (.inr ⟨ks, rfl, hkk, by omega, rfl, hks0, hlt⟩)
                        have hps := HPOR.out.later ((Below.refl wr.heap.size wr).alloc (Nat.le_refl _) (.cells #[.int .i64 3, .int .i64 0, .string ⟨#[]⟩, .slice a5 ks.length c5] 47)) (by omega)
                        obtain ⟨LL, hLL⟩ := hps.owns
                        obtain ⟨L0, hL0⟩ := HPO21.out.owns
                        have hrk : RdKs (wr.alloc (.cells #[.int .i64 3, .int .i64 0, .string ⟨#[]⟩, .slice a5 ks.length c5] 47)) (Own (wr.alloc (.cells #[.int .i64 3, .int .i64 0, .string ⟨#[]⟩, .slice a5 ks.length c5] 47)) X.heap.size (.slice a1 f.length c1)) (.slice a5 ks.length c5) (opProj ks).cols := by
                          have h := HKR.out
                          have hl := h.lt
                          have e := ks_flat ks
                          rw [e] at h
                          have h2 := inK_of_owns (h.alloc (.cells #[.int .i64 3, .int .i64 0, .string ⟨#[]⟩, .slice a5 ks.length c5] 47))
                          unfold RdKs
                          have e2 : (opProj ks).cols.length = ks.length := by simp [opProj]
                          rw [e2]
                          refine h2.more fun b hb => ?_
                          have h3 := hl b hb
                          refine ⟨by omega, by simp; omega, fun e => ?_⟩
                          have h4 := (hL0.lt b e).2
                          omega
                        have hnew := BoxN.new wr #[.int .i64 3, .int .i64 0, .string ⟨#[]⟩, .slice a5 ks.length c5] 47
                        have HPS := hid hps
                        have HNW := hid hnew
                        have HRL := hid (HRR.out.alloc (by omega) (.cells #[.int .i64 3, .int .i64 0, .string ⟨#[]⟩, .slice a5 ks.length c5] 47))
                        have HDL := hid (HDK.out.alloc (.cells #[.int .i64 3, .int .i64 0, .string ⟨#[]⟩, .slice a5 ks.length c5] 47))
                        have HLL := hid hLL
                        have HRKS := hid hrk
                        have hf1 := filt_short HFM.out
                        clear hps hLL hnew hL0 hrk HPOR HPO21 HKR HRK
                        obtain ⟨nf, hnf⟩ : ∃ nf, nf = f.length := ⟨_, rfl⟩
                        rw [← hnf] at hf1 HLL HRKS HPS
                        rw [← hnf]
                        have HNF := hid hnf.symm
                        clear hnf
                        go_wp2_with (at_builtin; refine wpList_append_form _ rfl _ _ 32 32 rfl X.heap.size 47 47 j0 (.agg #[.int .i64 0, .int .i64 0, .string ⟨#[]⟩, .slice none 0 0]) 4 56 Tryz.underlying32 Tryz.underlying32 hj0 hy0 hy1 hy2 rfl (by decide) (.slice a1 nf c1) nf LL rfl HLL.out (some ⟨_, 0, none⟩) 1 1 [.int .i64 3, .int .i64 0, .string ⟨#[]⟩, .slice a5 ks.length c5] rfl rfl (fun _ => ⟨_, rfl, World.news_of_block HNW.out⟩) (by intro u hu; simp at hu; rcases hu with rfl | rfl | rfl | rfl <;> rfl) (by omega) (by unfold maxLen; omega) (by omega) (by simp; omega) ?_; intro p8 cap8 w8 hown8 hg8 hat8 hlt8; have HG8 := hid hg8; have HOWN8 := hid hown8; have HAT8 := hid hat8; clear hown8 hg8 hat8)
                        go_wp2_with fail
                        have hps := HPS.out.push (L := LL) (by rw [HNF.out]; exact HLL.out) (o := opProj ks) (u := .slice a5 ks.length c5) (n := nf + 1) (by rw [HNF.out]) HOWN8.out HG8.out HAT8.out HRKS.out
                        have hlt := HPS.out.owns
                        obtain ⟨L9, hL9⟩ := hlt
                        have hrg := HRL.out.grown HG8.out (by simp; omega) (fun k hk => (hL9.lt k hk).1)
                        have hdg : KDice w8 w.heap.size := HDL.out.keep fun k hk => HG8.out.block k (by simp; omega) (by intro e; have := (hL9.lt k e.symm).1; omega)
                        go_meet
                        exact ⟨[opProj ks], ks.length, some ⟨p8, 0, none⟩, cap8, by rw [List.length_append, HNF.out]; rfl, HPJ2, hid hps, hid hrg, hid hdg⟩
                      · obtain rfl : ks = [] := by
                          cases ks with
                          | nil => rfl
                          | cons x xs => simp at hks0
                        go_wp2_with fail
                        go_meet
                        exact ⟨[], q, a1, c1, by rw [List.append_nil], hid (.inl ⟨rfl, rfl⟩), hid (by rw [List.append_nil]; exact HPOR.out), HRR, HDK⟩
              · have hk2n : ((k2 : Int) == 0) = false := by simp; omega
                have hk2z : ¬ (k2 : Int) = 0 := by omega
                go_wp2_with fail
                go_meet
                exact ⟨[], q, a1, c1, by rw [List.append_nil], hid (.inl ⟨rfl, rfl⟩), hid (by rw [List.append_nil]; exact HPO21.out), HR21, HD21⟩
            case rest =>
              obtain ⟨p, m, a2, c2, rfl, HPJ, HPO, HR22, HD22⟩ := hcut
              obtain ⟨w22, rfl⟩ : ∃ w22, w22 = wc := ⟨wc, rfl⟩
              have HLE : Hid ((f ++ p).length ≤ 2) := hid (by
                have h1 := filt_short HFM.out
                have h2 : p.length ≤ 1 := by
                  rcases HPJ.out with ⟨rfl, -⟩ | ⟨ks, rfl, -⟩
                  · simp
                  · simp
                rw [List.length_append]
                omega)
              obtain ⟨nn, hnn⟩ : ∃ nn, nn = (f ++ p).length := ⟨_, rfl⟩
              have hn2 : nn ≤ 2 := by rw [hnn]; exact HLE.out
              have hpo := HPO.out
              rw [← hnn] at hpo
              have HPN := hid hpo
              rw [← hnn]
              have HNN := hid hnn.symm
              clear HPO hpo hnn HLE
              have hz22 := HR22.out.size
              clear HPO21 HR21 HD21
              go_wp2_with fail
              with_reducible refine (kit_Next w.heap.size 3 w22 HD22.out (by omega) (by omega)).mono ?_
              rintro e w23 ⟨k3, rfl, hk3, hd23, hr23, -⟩
              have HR23 := hid (HR22.out.trans (hr23.mono hz22))
              have HD23 := hid hd23
              have HPO23 := hid (HPN.out.roll hr23 (Nat.le_refl _) (by omega))
              have hz23 := HR23.out.size
              clear hd23 hr23 HR22 HD22 HPN hz22
              go_upto_if 128 with fail
              go_cut [6, 128] from 129 to 132 (fun s6 _ wx => ∃ (e1 : List Po) (a' : Option Addr) (c' : Nat), s6 = .slice a' (f ++ p ++ e1).length c' ∧ (e1 = [] ∨ e1 = [opDist]) ∧ Hid (PoSt wx X.heap.size 47 s6 (f ++ p ++ e1)) ∧ Hid (Roll X.heap.size w.heap.size X wx) ∧ Hid (KDice wx w.heap.size))
              case first =>
                by_cases hk30 : k3 = 0
                · subst hk30
                  have hps := HPO23.out.later ((Below.refl w23.heap.size w23).alloc (Nat.le_refl _) (.cells #[.int .i64 4, .int .i64 0, .string ⟨#[]⟩, .slice none 0 0] 47)) (by omega)
                  obtain ⟨LL, hLL⟩ := hps.owns
                  have hnew := BoxN.new w23 #[.int .i64 4, .int .i64 0, .string ⟨#[]⟩, .slice none 0 0] 47
                  have HPS := hid hps
                  have HNW := hid hnew
                  have HRL := hid (HR23.out.alloc (by omega) (.cells #[.int .i64 4, .int .i64 0, .string ⟨#[]⟩, .slice none 0 0] 47))
                  have HDL := hid (HD23.out.alloc (.cells #[.int .i64 4, .int .i64 0, .string ⟨#[]⟩, .slice none 0 0] 47))
                  rw [HNN.out] at hLL
                  have HLL := hid hLL
                  clear hps hLL hnew
                  go_wp2_with (at_builtin; refine wpList_append_form _ rfl _ _ 32 32 rfl X.heap.size 47 47 j0 (.agg #[.int .i64 0, .int .i64 0, .string ⟨#[]⟩, .slice none 0 0]) 4 56 Tryz.underlying32 Tryz.underlying32 hj0 hy0 hy1 hy2 rfl (by decide) (.slice a2 nn c2) nn LL rfl HLL.out (some ⟨_, 0, none⟩) 1 1 [.int .i64 4, .int .i64 0, .string ⟨#[]⟩, .slice none 0 0] rfl rfl (fun _ => ⟨_, rfl, World.news_of_block HNW.out⟩) (by intro u hu; simp at hu; rcases hu with rfl | rfl | rfl | rfl <;> rfl) (by omega) (by unfold maxLen; omega) (by omega) (by simp; omega) ?_; intro p8 cap8 w8 hown8 hg8 hat8 hlt8; have HG8 := hid hg8; have HOWN8 := hid hown8; have HAT8 := hid hat8; clear hown8 hg8 hat8)
                  go_wp2_with fail
                  have hps := HPS.out.push (L := LL) (by rw [HNN.out]; exact HLL.out) (o := opDist) (u := .slice none 0 0) (n := nn + 1) (by rw [HNN.out]) HOWN8.out HG8.out HAT8.out (rdKs_nil _ _)
                  have hlt := HPS.out.owns
                  obtain ⟨L9, hL9⟩ := hlt
                  have hrg := HRL.out.grown HG8.out (by simp; omega) (fun k hk => (hL9.lt k hk).1)
                  have hdg : KDice w8 w.heap.size := HDL.out.keep fun k hk => HG8.out.block k (by simp; omega) (by intro e; have := (hL9.lt k e.symm).1; omega)
                  go_meet
                  exact ⟨[opDist], some ⟨p8, 0, none⟩, cap8, by rw [List.length_append, HNN.out]; rfl, .inr rfl, hid hps, hid hrg, hid hdg⟩
                · have hk3n : ((k3 : Int) == 0) = false := by simp; omega
                  have hk3z : ¬ (k3 : Int) = 0 := by omega
                  go_wp2_with fail
                  go_meet
                  exact ⟨[], a2, c2, by rw [List.append_nil, HNN.out], .inl rfl, hid (by rw [List.append_nil]; exact HPO23.out), HR23, HD23⟩
              case rest =>
                obtain ⟨e1, a3, c3, rfl, he1, HPO, HR24, HD24⟩ := hcut
                obtain ⟨w24, rfl⟩ : ∃ w24, w24 = wc := ⟨wc, rfl⟩
                have hz24 := HR24.out.size
                have hm0 : 0 < m := by
                  rcases HPJ.out with ⟨-, rfl⟩ | ⟨ks, -, -, -, rfl, h0, -⟩
                  · omega
                  · exact h0
                have HEM2 := hid (ends_mem hm0 he1)
                have HL2 : Hid ((f ++ p ++ e1).length ≤ 3) := hid (by
                  rw [List.length_append, HNN.out]
                  rcases he1 with rfl | rfl
                  · simp; omega
                  · simp; omega)
                obtain ⟨n2, hnn⟩ : ∃ n2, n2 = (f ++ p ++ e1).length := ⟨_, rfl⟩
                have hn3 : n2 ≤ 3 := by rw [hnn]; exact HL2.out
                have hpo := HPO.out
                rw [← hnn] at hpo
                have HPN := hid hpo
                rw [← hnn]
                have HN2 := hid hnn.symm
                clear HPO hpo hnn HL2 HPO23 HR23 HD23 he1
                go_wp2_with fail
                with_reducible refine (kit_Next w.heap.size 3 w24 HD24.out (by omega) (by omega)).mono ?_
                rintro e w25 ⟨k4, rfl, hk4, hd25, hr25, -⟩
                have HR25 := hid (HR24.out.trans (hr25.mono hz24))
                have HD25 := hid hd25
                have HPO25 := hid (HPN.out.roll hr25 (Nat.le_refl _) (by omega))
                have hz25 := HR25.out.size
                clear hd25 hr25 HR24 HD24 HPN hz24
                go_upto_if 135 with fail
                go_cut [6, 135] from 136 to 139 (fun s6 _ wx => ∃ (e2 : List Po) (a' : Option Addr) (c' : Nat), s6 = .slice a' (f ++ p ++ e2).length c' ∧ Hid (e2 ∈ endsL m) ∧ Hid (PoSt wx X.heap.size 47 s6 (f ++ p ++ e2)) ∧ Hid (Roll X.heap.size w.heap.size X wx) ∧ Hid (KDice wx w.heap.size))
                case first =>
                  by_cases hk40 : k4 = 0
                  · subst hk40
                    have hps := HPO25.out.later ((Below.refl w25.heap.size w25).alloc (Nat.le_refl _) (.cells #[.int .i64 5, .int .i64 0, .string ⟨#[]⟩, .slice none 0 0] 47)) (by omega)
                    obtain ⟨LL, hLL⟩ := hps.owns
                    have hnew := BoxN.new w25 #[.int .i64 5, .int .i64 0, .string ⟨#[]⟩, .slice none 0 0] 47
                    have HPS := hid hps
                    have HNW := hid hnew
                    have HRL := hid (HR25.out.alloc (by omega) (.cells #[.int .i64 5, .int .i64 0, .string ⟨#[]⟩, .slice none 0 0] 47))
                    have HDL := hid (HD25.out.alloc (.cells #[.int .i64 5, .int .i64 0, .string ⟨#[]⟩, .slice none 0 0] 47))
                    rw [HN2.out] at hLL
                    have HLL := hid hLL
                    clear hps hLL hnew
                    go_wp2_with (at_builtin; refine wpList_append_form _ rfl _ _ 32 32 rfl X.heap.size 47 47 j0 (.agg #[.int .i64 0, .int .i64 0, .string ⟨#[]⟩, .slice none 0 0]) 4 56 Tryz.underlying32 Tryz.underlying32 hj0 hy0 hy1 hy2 rfl (by decide) (.slice a3 n2 c3) n2 LL rfl HLL.out (some ⟨_, 0, none⟩) 1 1 [.int .i64 5, .int .i64 0, .string ⟨#[]⟩, .slice none 0 0] rfl rfl (fun _ => ⟨_, rfl, World.news_of_block HNW.out⟩) (by intro u hu; simp at hu; rcases hu with rfl | rfl | rfl | rfl <;> rfl) (by omega) (by unfold maxLen; omega) (by omega) (by simp; omega) ?_; intro p8 cap8 w8 hown8 hg8 hat8 hlt8; have HG8 := hid hg8; have HOWN8 := hid hown8; have HAT8 := hid hat8; clear hown8 hg8 hat8)
                    go_wp2_with fail
                    have hps := HPS.out.push (L := LL) (by rw [HN2.out]; exact HLL.out) (o := opSort 0) (u := .slice none 0 0) (n := n2 + 1) (by rw [HN2.out]) HOWN8.out HG8.out HAT8.out (rdKs_nil _ _)
                    have hlt := HPS.out.owns
                    obtain ⟨L9, hL9⟩ := hlt
                    have hrg := HRL.out.grown HG8.out (by simp; omega) (fun k hk => (hL9.lt k hk).1)
                    have hdg : KDice w8 w.heap.size := HDL.out.keep fun k hk => HG8.out.block k (by simp; omega) (by intro e; have := (hL9.lt k e.symm).1; omega)
                    go_meet
                    exact ⟨e1 ++ [opSort 0], some ⟨p8, 0, none⟩, cap8, by rw [← List.append_assoc, List.length_append, HN2.out]; rfl, hid HEM2.out.2, hid (by rw [← List.append_assoc]; exact hps), hid hrg, hid hdg⟩
                  · have hk4n : ((k4 : Int) == 0) = false := by simp; omega
                    have hk4z : ¬ (k4 : Int) = 0 := by omega
                    go_wp2_with fail
                    go_meet
                    exact ⟨e1, a3, c3, by rw [HN2.out], hid HEM2.out.1, HPO25, HR25, HD25⟩
                case rest =>
                  obtain ⟨e2, a4, c4, rfl, HE2, HPO, HR26, HD26⟩ := hcut
                  obtain ⟨w26, rfl⟩ : ∃ w26, w26 = wc := ⟨wc, rfl⟩
                  obtain ⟨nv, hnv, hcv⟩ := HCV.out
                  have hpj : ProjW A.length p m := by rw [HAL.out]; exact HPJ.out
                  have hall := leads_all hcv HND.out HFM.out hpj HE2.out
                  have hself := leads_self HND.out
                  have hfew : Few A := ⟨nv, by omega, hcv⟩
                  have hal64 : A.length ≤ 64 := by rw [HAL.out]; omega
                  have htab := few_tab HTV.out.2.2.1 hfew hal64
                  generalize f ++ p ++ e2 = os at *
                  obtain ⟨hcan, hlen, l', hl', hll', hrl⟩ := hall
                  have hrk := run_ok os A hfew hal64 hcan os.length
                  rw [List.take_length] at hrk
                  have hfewb := hrk.1
                  have hb64 := hrk.2.1
                  have htabb := few_tab HTV.out.2.2.1 hfewb hb64
                  have hcan2 := can_found hcv hb64 hl'
                  have HFEW := hid hfew
                  have HTAB := hid htab
                  have HTABB := hid htabb
                  have HCAN := hid hcan
                  have HCAN2 := hid hcan2
                  have HFL := hid hl'
                  have HRL2 := hid hrl
                  have HSELF := hid hself
                  have hz26 := HR26.out.size
                  have HBW26 := hid (HTY.out w26 HR26.out)
                  have hra : RdCo w26 (fun b => w1.heap.size ≤ b ∧ b < wr.heap.size) (.slice va q vc) A := HRW.out w26 HR26.out
                  have HRA := hid hra
                  have HRUN := hid (expl_Run ⟨1, nm, A⟩ (.slice va q vc) (.slice a4 os.length c4) os w26.heap.size w26 HTAB.out HFEW.out (hra.more fun b hb => by have := hb.2; omega) (HPO.out.read.more fun b hb => hb.2) (Nat.le_refl _) (HT.out.below HBW26.out) HCAN.out (by omega))
                  simp only at HRUN
                  obtain ⟨n4, hn4⟩ : ∃ n4, n4 = os.length := ⟨_, rfl⟩
                  rw [← hn4] at HRUN hlen hll'
                  rw [← hn4]
                  have HTB26 := hid (HTW.out w26 HR26.out)
                  have HB726 := hid (HB7.out w26 HR26.out)
                  have x0 := HTB26.out.cell 0 rfl
                  have x1 := HTB26.out.cell 1 rfl
                  have x2 := HTB26.out.cell 2 rfl
                  clear hcan hrk hfewb hb64 htabb hcan2 hl' hrl hself hfew htab hcv hpj hra hn4 HPO HPO25 HR25 HD25 HD26
                  generalize hBT : runL A os = BT at *
                  clear hBT
                  go_wp2_with fail
                  with_reducible refine HRUN.out.mono ?_
                  rintro e w27 ⟨y27, rfl, hrd27, hb27⟩
                  have hz27 := hb27.size
                  obtain ⟨ya, yc, rfl⟩ := rdCo_len hrd27
                  obtain ⟨nb, hnb⟩ : ∃ nb, nb = BT.length := ⟨_, rfl⟩
                  rw [← hnb] at hrd27
                  rw [← hnb]
                  have hb7 := HB726.out.below hb27 HB726.out.lt
                  have htb := HTB26.out.below hb27 HTB26.out.lt
                  have hne : wr.heap.size ≠ w2.heap.size := by omega
                  obtain ⟨X28, hX28⟩ : ∃ X, X = ((w27.setCell ⟨wr.heap.size, 0, none⟩ (.int .i64 1)).setCell ⟨wr.heap.size, 1, none⟩ (.string nm)).setCell ⟨wr.heap.size, 2, none⟩ (.slice ya nb yc) := ⟨_, rfl⟩
                  have hb8 := ((hb7.set 0 (.int .i64 1)).set 1 (.string nm)).set 2 (.slice ya nb yc)
                  have ht8 := ((htb.other (p := ⟨wr.heap.size, 0, none⟩) hne (.int .i64 1)).other (p := ⟨wr.heap.size, 1, none⟩) hne (.string nm)).other (p := ⟨wr.heap.size, 2, none⟩) hne (.slice ya nb yc)
                  have hcz : ∀ p : Addr, p.block ≠ wr.heap.size → (((w27.setCell ⟨wr.heap.size, 0, none⟩ (.int .i64 1)).setCell ⟨wr.heap.size, 1, none⟩ (.string nm)).setCell ⟨wr.heap.size, 2, none⟩ (.slice ya nb yc)).cell? p = w27.cell? p := fun p hp => by
                    rw [World.cell?_setCell_other _ _ _ _ (by intro e; subst e; exact hp rfl), World.cell?_setCell_other _ _ _ _ (by intro e; subst e; exact hp rfl), World.cell?_setCell_other _ _ _ _ (by intro e; subst e; exact hp rfl)]
                  have hsz : (((w27.setCell ⟨wr.heap.size, 0, none⟩ (.int .i64 1)).setCell ⟨wr.heap.size, 1, none⟩ (.string nm)).setCell ⟨wr.heap.size, 2, none⟩ (.slice ya nb yc)).heap.size = w27.heap.size := by simp
                  have hgw : w.heap.size ≤ wr.heap.size := by omega
                  have hbw8 := (((HBW26.out.trans (hb27.mono HBW26.out.size)).setCell (p := ⟨wr.heap.size, 0, none⟩) hgw (.int .i64 1)).setCell (p := ⟨wr.heap.size, 1, none⟩) hgw (.string nm)).setCell (p := ⟨wr.heap.size, 2, none⟩) hgw (.slice ya nb yc)
                  rw [← hX28] at hb8 ht8 hcz hsz hbw8
                  have HRA8 : Hid (RdCo X28 (· < X28.heap.size) (.slice va q vc) A) := hid ((HRA.out.keep (w' := X28) fun p hp => (hcz p (by have := hp.2; omega)).trans (hb27.cell (p := p) (by have := hp.2; omega))).more fun b hb => by have := hb.2; omega)
                  have HRB8 : Hid (RdCo X28 (· < X28.heap.size) (.slice ya nb yc) BT) := hid ((hrd27.keep (w' := X28) fun p hp => hcz p (by have := hp.1; omega)).more fun b hb => by have := hb.2; omega)
                  have HBX8 := hid hb8
                  have HTX8 := hid ht8
                  have HBW8 := hid hbw8
                  have f0 := hb7.frozen 0
                  have f1 := hb7.frozen 1
                  have f2 := hb7.frozen 2
                  have g0 := hb7.cell 0 rfl
                  have g1 := hb7.cell 1 rfl
                  have g2 := hb7.cell 2 rfl
                  have HFI := hid (expl_Find ⟨1, nm, A⟩ ⟨1, nm, BT⟩ (.slice va q vc) (.slice ya nb yc) X28.heap.size X28 HTAB.out HTABB.out HFEW.out HRA8.out HRB8.out (Nat.le_refl _) (HT.out.below HBW8.out))
                  have HFS := hid (fun W (hW : Below X28.heap.size X28 W) => expl_Find ⟨1, nm, A⟩ ⟨1, nm, A⟩ (.slice va q vc) (.slice va q vc) W.heap.size W HTAB.out HTAB.out HFEW.out (rdCo_next HRA8.out hW) (rdCo_next HRA8.out hW) (Nat.le_refl _) (HT.out.below (HBW8.out.trans (hW.mono HBW8.out.size))))
                  simp only at HFI HFS
                  rw [HFL.out] at HFI
                  rw [HSELF.out] at HFS
                  have x0 := HTX8.out.cell 0 rfl
                  have x1 := HTX8.out.cell 1 rfl
                  have x2 := HTX8.out.cell 2 rfl
                  have y0 := HBX8.out.cell 0 rfl
                  have y1 := HBX8.out.cell 1 rfl
                  have y2 := HBX8.out.cell 2 rfl
                  rw [hX28] at x0 x1 x2 y0 y1 y2
                  clear hb7 htb hb8 ht8 hcz hbw8 hrd27 hb27 hnb
                  have hsza := Nat.le_of_eq hsz
                  have hszb := Nat.le_of_eq hsz.symm
                  clear hsz
                  go_wp2_with fail
                  rw [← hX28]
                  clear hX28 x0 x1 x2 y0 y1 y2 f0 f1 f2 g0 g1 g2
                  with_reducible refine HFI.out.mono ?_
                  rintro e w29 ⟨xv, rfl, hpo29, hb29⟩
                  have hpo9 : RdPo w29 (· < w29.heap.size) xv l' := hpo29
                  have HB29 := hid hb29
                  have HBW29 := hid (HBW8.out.trans (hb29.mono HBW8.out.size))
                  obtain ⟨xa, xc, rfl⟩ := rdPo_len hpo9
                  have HTX9 := hid (HTX8.out.below hb29 HTX8.out.lt)
                  have HBX9 := hid (HBX8.out.below hb29 HBX8.out.lt)
                  have HRN2 := hid (expl_Run ⟨1, nm, A⟩ (.slice va q vc) (.slice xa l'.length xc) l' w29.heap.size w29 HTAB.out HFEW.out (rdCo_next HRA8.out hb29) hpo9 (Nat.le_refl _) (HT.out.below HBW29.out) HCAN2.out (by omega))
                  simp only at HRN2
                  rw [HRL2.out] at HRN2
                  obtain ⟨lx, hlx⟩ : ∃ lx, lx = l'.length := ⟨_, rfl⟩
                  rw [← hlx] at HRN2 hll'
                  rw [← hlx]
                  have x0 := HTX9.out.cell 0 rfl
                  have x1 := HTX9.out.cell 1 rfl
                  have x2 := HTX9.out.cell 2 rfl
                  clear hpo9 hpo29 hb29 hlx HFI
                  simp only [Option.isSome_some]
                  go_wp2_with fail
                  clear x0 x1 x2
                  with_reducible refine HRN2.out.mono ?_
                  rintro e w30 ⟨y30, rfl, hrd30, hb30⟩
                  obtain ⟨za, zc, rfl⟩ := rdCo_len hrd30
                  have HB30 := hid (HB29.out.trans (hb30.mono HB29.out.size))
                  obtain ⟨nb2, hnb2⟩ : ∃ nb2, nb2 = BT.length := ⟨_, rfl⟩
                  rw [← hnb2] at hrd30
                  rw [← hnb2]
                  obtain ⟨X31, hX31⟩ : ∃ X, X = w30.alloc (.cells #[.int .i64 1, .string nm, .slice za nb2 zc] 29) := ⟨_, rfl⟩
                  have hbx := BoxN.new w30 #[.int .i64 1, .string nm, .slice za nb2 zc] 29
                  have hsx := (Below.refl w30.heap.size w30).alloc (Nat.le_refl _) (.cells #[.int .i64 1, .string nm, .slice za nb2 zc] 29)
                  have hrz := rdCo_next (hrd30.more (S' := (· < w30.heap.size)) fun b hb => hb.2) hsx
                  rw [← hX31] at hbx hsx hrz
                  have HZB := hid hbx
                  have HZR := hid hrz
                  have HB31 := hid (HB30.out.trans (hsx.mono HB30.out.size))
                  have hb931 := hb30.trans (hsx.mono hb30.size)
                  have HTX31 := hid (HTX9.out.below hb931 HTX9.out.lt)
                  have HBX31 := hid (HBX9.out.below hb931 HBX9.out.lt)
                  have x0 := HTX31.out.cell 0 rfl
                  have x1 := HTX31.out.cell 1 rfl
                  have x2 := HTX31.out.cell 2 rfl
                  rw [hX31] at x0 x1 x2
                  clear hbx hsx hrz hrd30 hb30 hb931 hnb2 HRN2
                  go_wp2_with fail
                  rw [← hX31]
                  clear hX31 x0 x1 x2
                  with_reducible refine (HFS.out X31 HB31.out).mono ?_
                  rintro e w32 ⟨sv, rfl, hpo32, hb32⟩
                  have hpo0 : RdPo w32 (· < w32.heap.size) sv [] := hpo32
                  obtain ⟨sa, sc, rfl⟩ := rdPo_len hpo0
                  have HB32 := hid (HB31.out.trans (hb32.mono HB31.out.size))
                  have HBW32 := hid (HBW8.out.trans (HB32.out.mono HBW8.out.size))
                  have hz32 := HZB.out.below hb32 HZB.out.lt
                  have hb732 := HBX31.out.below hb32 HBX31.out.lt
                  have HSC := hid (ref_SameCols 1 1 nm nm BT (.slice za nb2 zc) (.slice ya nb yc) w32.heap.size w32 (rdCo_next HZR.out hb32) (rdCo_next HRB8.out HB32.out) (Nat.le_refl _))
                  have x0 := hz32.cell 0 rfl
                  have x1 := hz32.cell 1 rfl
                  have x2 := hz32.cell 2 rfl
                  have y0 := hb732.cell 0 rfl
                  have y1 := hb732.cell 1 rfl
                  have y2 := hb732.cell 2 rfl
                  have hle1 : decide ((lx : Int) ≤ (n4 : Int)) = true := decide_eq_true (by omega)
                  have hle2 : (lx : Int) ≤ (n4 : Int) := by omega
                  simp only [List.length_nil, Option.isSome_some]
                  clear hz32 hb732 hpo32 hpo0 hb32
                  go_wp2_with fail
                  clear x0 x1 x2 y0 y1 y2
                  with_reducible refine HSC.out.mono ?_
                  rintro e w33 ⟨rfl, hb33⟩
                  have HBW33 := hid (HBW32.out.trans (hb33.mono HBW32.out.size))
                  clear hb33
                  go_wp2_with fail
                  with_reducible refine (HAW.out w33 HBW33.out).mono ?_
                  rintro e w34 ⟨rfl, hb34⟩
                  have HF9 := hid (HBW33.out.trans (hb34.mono HBW33.out.size))
                  go_wp2
                  go_ret
                  exact ⟨rfl, HF9.out⟩
  · have HLI := hid (kit_Light a n c w hnm)
    rw [decide_eq_false hg] at HLI
    go_enter Tryz.func4, Tryz.ntmps4
    go_wp2_with fail
    with_reducible refine HLI.out.mono ?_
    rintro e w0 ⟨rfl, rfl⟩
    go_wp2_with fail
    with_reducible refine (HAW.out w (Below.refl _ _)).mono ?_
    rintro e w4 ⟨rfl, hb4⟩
    go_wp2
    go_ret
    exact ⟨rfl, hb4⟩
end Go.Proofs.YtfmlpaplnkohpaaGreatDoor
