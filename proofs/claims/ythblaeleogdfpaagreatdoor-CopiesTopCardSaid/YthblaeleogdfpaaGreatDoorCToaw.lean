/- Contract of the reference's Select. (T holds throughout, S till operation st.) A region that draws its order: loads are taken first, where the only writers of their cells are ops that wait for all of the loads. The kit's law (OrdersHeld) asks the cells anew behind every operation; here only till operation st has come up. -/
import Derived.Test.YthblaeleogdfpaaGreatDoorCToav
import Derived.Deep.RegionHeld3
import Derived.Test.YthblaeleogdfpaaGreatDoorCToaj
set_option linter.unusedVariables false
set_option linter.unusedSimpArgs false
namespace Go.Proofs.YthblaeleogdfpaaGreatDoor
open Go.RowKit
theorem takeN_snoc {rs : List Nat} {q : Nat} (h : q < rs.length) : rs.take (q + 1) = rs.take q ++ [rs.getD q 0] := by
 rw [List.take_succ_eq_append_getElem h]
 simp [List.getD, h]
def pickL (c : List Cl) (rs : List Nat) : List Cl := rs.map fun r => c.getD r Cl.z
set_option maxRecDepth 100000 in
set_option maxHeartbeats 4000000 in
theorem ref03_Select (t : Ta) (v u : Value) (rs : List Nat) (B n : Nat) (w : World) (ht : TabV t) (hv : RdCo w (· < B) v t.cols) (hu : Rd w B u rs.length (natF rs)) (hB : B ≤ w.heap.size) (hT : Tabs w) (hc : ∀ x ∈ t.cols, x.cells.length = n) (hn : rowsC t.cols = n) (hrs : ∀ r ∈ rs, r < n) (hl : rs.length ≤ 4096) :
  Calls Tryz.prog 117 #[.agg #[.int .i64 t.id, .string t.name, v], u] w (PickedT w 0 t.id t.name (selL t.cols rs)) := by
 have HVL := hid (fun W (hW : Below w.heap.size w W) => ref_ValidTab t v B W ht (hv.keep fun p (hp : p.block < B) => hW.cell (p := p) (by omega)) (Nat.le_trans hB hW.size) (hT.below hW))
 have HRO := hid (fun W (hW : Below w.heap.size w W) => ref03_Rows t.id t.name v t.cols B W (hv.keep fun p (hp : p.block < B) => hW.cell (p := p) (by omega)) (Nat.le_trans hB hW.size))
 rw [hn] at HRO
 obtain ⟨i0, hi, hz0, hz1, hz2⟩ := info_parts info_col
 obtain ⟨j0, hj, hj0, hj1, hj2⟩ := info_parts info_cell
 obtain ⟨cv, hcv, hcl⟩ := hv
 obtain ⟨a, c, rfl, hcc, hm, hr⟩ := hcv
 obtain ⟨ua, uc, rfl, huc, hum, hur⟩ := hu
 have hxl64 : t.cols.length ≤ 64 := ht.2.2.2.1
 have HR := hid hr
 have HCL := hid hcl
 have HUR := hid hur
 have hn4 : t.cols.length ≠ 0 → n ≤ 4096 := fun h => by
  obtain ⟨k, hk, hx⟩ := ht.cv
  have := rowsC_of hx (by omega)
  omega
 have HN4 := hid hn4
 have HC := hid (fun q (hq : q < t.cols.length) => hc _ (getD_mem hq Co.z))
 have HRS := hid (fun q (hq : q < rs.length) => hrs _ (getD_mem hq 0))
 have HSN := hid (fun q (h : q < t.cols.length) => @take_snocC t.cols q h)
 have HTN := hid (fun q (h : q < rs.length) => @takeN_snoc rs q h)
 clear hr hcl hur hc hrs ht hT hn hn4
 obtain ⟨id, nm, xs⟩ := t
 simp only at *
 generalize hxl : xs.length = L at *
 have HXL := hid hxl
 clear hxl
 generalize hkl : rs.length = m at *
 have HKL := hid hkl
 clear hkl
 unfold maxLen at hm hum
 have HX0 := hid ((BoxN.new w #[.int .i64 id, .string nm, .slice a L c] 24).alloc (.cells #[.int .i64 0, .string ⟨#[]⟩, .slice none 0 0] 24))
 have hy0 := BoxN.new (w.alloc (.cells #[.int .i64 id, .string nm, .slice a L c] 24)) #[.int .i64 0, .string ⟨#[]⟩, .slice none 0 0] 24
 rw [World.size_alloc] at hy0
 have HY0 := hid hy0
 have HB0 := hid (((Below.refl w.heap.size w).alloc (Nat.le_refl _) (.cells #[.int .i64 id, .string nm, .slice a L c] 24)).alloc (by simp) (.cells #[.int .i64 0, .string ⟨#[]⟩, .slice none 0 0] 24))
 have hz0' : ((w.alloc (.cells #[.int .i64 id, .string nm, .slice a L c] 24)).alloc (.cells #[.int .i64 0, .string ⟨#[]⟩, .slice none 0 0] 24)).heap.size = w.heap.size + 2 := by simp
 have c0 := HX0.out.cell 0 rfl
 have c1 := HX0.out.cell 1 rfl
 have c2 := HX0.out.cell 2 rfl
 clear hy0
 go_enter Tryz.func117, Tryz.ntmps117
 generalize hLA : Code.loop _ = LA
 go_wp2_with fail
 generalize (w.alloc (.cells #[.int .i64 id, .string nm, .slice a L c] 24)).alloc (.cells #[.int .i64 0, .string ⟨#[]⟩, .slice none 0 0] 24) = W0 at *
 with_reducible refine (HVL.out W0 HB0.out).mono ?_
 rintro e w1 ⟨rfl, hb1⟩
 have HB1 := hid (HB0.out.trans (hb1.mono (by omega)))
 have HX1 := hid (HX0.out.below hb1 HX0.out.lt)
 have HY1 := hid (HY0.out.below hb1 HY0.out.lt)
 have hz1' := hb1.size
 clear c0 c1 c2 hb1 HVL
 go_wp2_with fail
 subst hLA
 go_loopg [20] m (fun N i wr => ∃ q : Nat, i = .int .i64 (q : Int) ∧ q + N = m ∧ Hid (Below w1.heap.size w1 wr))
 case atStart => exact ⟨0, rfl, by omega, hid (Below.refl _ _)⟩
 case round =>
  obtain ⟨q, rfl, hq, HBW⟩ := hrel
  have hwz := HBW.out.size
  by_cases hp : 0 < gk
  ·obtain ⟨b, o, rfl, hb, hcell⟩ := HUR.out (by omega)
   have hb' : b < B := hb
   have HBW2 := hid (HB1.out.trans (HBW.out.mono (by omega)))
   have k0 : wr.cell? ⟨b, o + q, none⟩ = some (.int .i64 ((rs.getD q 0 : Nat) : Int)) := (HBW2.out.cell (p := ⟨b, o + q, none⟩) (by show b < w.heap.size; omega)).trans (hcell q (by omega))
   have hlt := HRS.out q (by omega)
   clear hcell
   generalize rs.getD q 0 = r at *
   have hx1 := HX1.out.below HBW.out HX1.out.lt
   have c0 := hx1.cell 0 rfl
   have c1 := hx1.cell 1 rfl
   have c2 := hx1.cell 2 rfl
   have hge : decide ((n : Int) ≤ (r : Int)) = false := decide_eq_false (by omega)
   have hge2 : decide (n ≤ r) = false := decide_eq_false (by omega)
   clear hx1
   go_wp2_with fail
   with_reducible refine (HRO.out _ HBW2.out).mono ?_
   rintro e w2 ⟨rfl, hb2⟩
   have HB2 := hid (HBW.out.trans (hb2.mono hwz))
   clear hb2 c0 c1 c2 k0
   go_wp2_with fail
   go_roundg (gk - 1)
   case rel => exact ⟨q + 1, by go_num, by omega, HB2⟩
   case measure => omega
  ·obtain rfl : gk = 0 := by omega
   obtain rfl : q = m := by omega
   have HX2 := hid (HX1.out.below HBW.out HX1.out.lt)
   have HY2 := hid (HY1.out.below HBW.out HY1.out.lt)
   have HB2 := hid (HB1.out.trans (HBW.out.mono (by omega)))
   obtain ⟨W3, rfl⟩ : ∃ W3, W3 = wr := ⟨wr, rfl⟩
   have c0 := HX2.out.cell 0 rfl
   have c1 := HX2.out.cell 1 rfl
   have c2 := HX2.out.cell 2 rfl
   have hd : decide ((4096 : Int) < (q : Int)) = false := decide_eq_false (by omega)
   have hd2 : decide (4096 < q) = false := decide_eq_false (by omega)
   have HO4 := hid (BoxN.new W3 #[.int .i64 id, .string nm, .slice none 0 0] 24)
   have HX4 := hid (HX2.out.alloc (.cells #[.int .i64 id, .string nm, .slice none 0 0] 24))
   have HY4 := hid (HY2.out.alloc (.cells #[.int .i64 id, .string nm, .slice none 0 0] 24))
   have HB4 := hid (HB2.out.alloc (by omega) (.cells #[.int .i64 id, .string nm, .slice none 0 0] 24))
   have hz4' : (W3.alloc (.cells #[.int .i64 id, .string nm, .slice none 0 0] 24)).heap.size = W3.heap.size + 1 := by simp
   have c4 := HX4.out.cell 2 rfl
   go_wp2_with fail
   generalize W3.alloc (.cells #[.int .i64 id, .string nm, .slice none 0 0] 24) = W4 at *
   clear c0 c1 c2 c4 hd hd2 HBW
   go_loopg [46] L (fun N i wr => ∃ (p : Nat) (y : Value), i = .int .i64 (p : Int) ∧ p + N = L ∧ Hid (ToSt w W4 wr W3.heap.size W4.heap.size id nm y (selL (xs.take p) rs)))
   case atStart => exact ⟨0, .slice none 0 0, rfl, by omega, hid ⟨HB4.out, HO4.out, CoSt.start (Nat.le_refl _), Nat.le_refl _, fun _ _ _ => rfl⟩⟩
   case round =>
    obtain ⟨p, y, rfl, hpL, HST⟩ := hrel
    have hlo := HST.out.low
    have hwr := HST.out.bel.size
    have HPL : Hid ((selL (xs.take p) rs).length = p) := hid (by unfold selL; rw [List.length_map, List.length_take]; have := HXL.out; omega)
    obtain ⟨wo, rfl⟩ : ∃ wo, wo = wr := ⟨wr, rfl⟩
    by_cases hpp : 0 < gk
    ·obtain ⟨ba, oa, rfl, hba, hcella⟩ := HR.out (by omega)
     have hba' : ba < B := hba
     have hqL : p < L := by omega
     have k1 : wo.cell? ⟨ba, oa + p * 2, none⟩ = some (.string (xs.getD p Co.z).name) := (HST.out.bel.cell (p := ⟨ba, oa + p * 2, none⟩) (by show ba < w.heap.size; omega)).trans (hcella p hqL 0 (by omega))
     have k2 : wo.cell? ⟨ba, oa + p * 2 + 1, none⟩ = some (cv p) := (HST.out.bel.cell (p := ⟨ba, oa + p * 2 + 1, none⟩) (by show ba < w.heap.size; omega)).trans (hcella p hqL 1 (by omega))
     obtain ⟨ca, ck, hcq, -, hckm, -⟩ := HCL.out p hqL
     have HRQ := hid (HCL.out p hqL)
     have hcn := HC.out p hqL
     rw [hcq, hcn] at k2
     rw [hcq] at HRQ
     have HSNq := hid (HSN.out p hqL)
     have hn4 := HN4.out (by omega)
     clear hcella hcq
     generalize xs.getD p Co.z = x at *
     obtain ⟨xn, xc⟩ := x
     simp only at k1 k2 HRQ hcn
     have HCN := hid hcn
     rw [hcn] at HRQ
     clear hcn
     have hcb := (BoxN.new wo #[.string xn, .slice ca n ck] 30).alloc (.cells #[.string xn, .slice none 0 0] 30)
     have hxb := BoxN.new (wo.alloc (.cells #[.string xn, .slice ca n ck] 30)) #[.string xn, .slice none 0 0] 30
     rw [World.size_alloc] at hxb
     have HCB := hid hcb
     have HXB := hid hxb
     have HBO := hid ((((Below.refl wo.heap.size wo).alloc (Nat.le_refl _) (.cells #[.string xn, .slice ca n ck] 30))).alloc (by simp) (.cells #[.string xn, .slice none 0 0] 30))
     have hz5 : ((wo.alloc (.cells #[.string xn, .slice ca n ck] 30)).alloc (.cells #[.string xn, .slice none 0 0] 30)).heap.size = wo.heap.size + 2 := by simp
     clear hcb hxb
     generalize hLC : Code.loop _ = LC
     go_wp2_with fail
     generalize (wo.alloc (.cells #[.string xn, .slice ca n ck] 30)).alloc (.cells #[.string xn, .slice none 0 0] 30) = W5 at *
     subst hLC
     clear k1 k2
     go_loopg [55] q (fun N i wr => ∃ (r : Nat) (z : Value), i = .int .i64 (r : Int) ∧ r + N = q ∧ Hid (GrowSt wo W5 wr (wo.heap.size + 1) W5.heap.size 30 (fun s => #[.string xn, s]) 104 2 z r (flatK 2 r (clF (pickL xc (rs.take r))))))
     case atStart => exact ⟨0, .slice none 0 0, rfl, by omega, hid ⟨HBO.out, HXB.out, World.ownsRow_nil _ _ _ _, Nat.le_refl _, fun _ _ _ => rfl⟩⟩
     case round =>
      obtain ⟨r, z, rfl, hrq, HG⟩ := hrel
      have hlo2 := HG.out.low
      by_cases hrp : 0 < gk
      ·obtain ⟨b, o, rfl, hb, hcell⟩ := HUR.out (by omega)
       have hb' : b < B := hb
       have HB5 := hid (HST.out.bel.trans (HG.out.bel.mono hwr))
       have k0 : wr.cell? ⟨b, o + r, none⟩ = some (.int .i64 ((rs.getD r 0 : Nat) : Int)) := (HB5.out.cell (p := ⟨b, o + r, none⟩) (by show b < w.heap.size; omega)).trans (hcell r (by omega))
       have hlt := HRS.out r (by omega)
       have HTNr := hid (HTN.out r (by omega))
       obtain ⟨_, _, e9, -, -, h9⟩ := HRQ.out
       obtain ⟨rfl, -, rfl⟩ := Value.slice.inj e9
       obtain ⟨b2, o2, rfl, hb2, hcell2⟩ := h9 (by have := HCN.out; omega)
       have hb2' : b2 < B := hb2
       clear hcell e9 h9
       generalize hrr : rs.getD r 0 = rr at *
       have HRR := hid hrr
       clear hrr
       have hlt' : (rr : Int) < (n : Int) := by omega
       have m0 : wr.cell? ⟨b2, o2 + rr * 2, none⟩ = some (.bool (xc.getD rr Cl.z).null) := (HB5.out.cell (p := ⟨b2, o2 + rr * 2, none⟩) (by show b2 < w.heap.size; omega)).trans (hcell2 rr (by have := HCN.out; omega) 0 (by omega))
       have m1 : wr.cell? ⟨b2, o2 + rr * 2 + 1, none⟩ = some (.string (xc.getD rr Cl.z).text) := (HB5.out.cell (p := ⟨b2, o2 + rr * 2 + 1, none⟩) (by show b2 < w.heap.size; omega)).trans (hcell2 rr (by have := HCN.out; omega) 1 (by omega))
       clear hcell2
       have HPK : Hid (pickL xc (rs.take (r + 1)) = pickL xc (rs.take r) ++ [xc.getD rr Cl.z]) := hid (by
        unfold pickL
        rw [HTNr.out, List.map_append, List.map_singleton])
       have HPQ : Hid ((pickL xc (rs.take r)).length = r) := hid (by unfold pickL; rw [List.length_map, List.length_take]; have := HKL.out; omega)
       generalize xc.getD rr Cl.z = cc at *
       obtain ⟨cn, ct⟩ := cc
       simp only at m0 m1
       have hcb6 := ((HG.out.keep wo.heap.size (by omega) (by omega)).trans HCB.out)
       have d1 : wr.cell? ⟨wo.heap.size, 1, none⟩ = some (.slice (some ⟨b2, o2, none⟩) n ck) := (show BoxN wr wo.heap.size _ _ from hcb6).cell 1 rfl
       have s2 : wr.cell? ⟨wo.heap.size + 1, 1, none⟩ = some z := HG.out.box.cell 1 rfl
       have sf2 := HG.out.box.frozen 1
       have HOWN := hid HG.out.own
       obtain ⟨za, zc, rfl⟩ := own_slice HG.out.own
       have HO1 := hid ((HOWN.out.alloc (.cells #[.bool cn, .string ct] 104)).drew)
       have HN1 := hid (show BoxN (wr.alloc (.cells #[.bool cn, .string ct] 104)).drew wr.heap.size 104 #[.bool cn, .string ct] from BoxN.new wr _ _)
       have hbz := HG.out.bel.size
       have HS1 := hid (HG.out.later (W' := (wr.alloc (.cells #[.bool cn, .string ct] 104)).drew) (by have h1 := Below.refl wr.heap.size wr; repeat' (first | (with_reducible exact Below.refl _ _) | (with_reducible assumption) | (with_reducible refine below_drewN ?_) | (with_reducible refine Below.alloc ?_ ?_ _) | (with_reducible refine Below.drew ?_) | (with_reducible refine Below.setCell ?_ ?_ _) | (with_reducible refine Below.trans ?_ (Below.mono (by with_reducible assumption) ?_)) | go_size)) hbz)
       have s3 : (wr.alloc (.cells #[.bool cn, .string ct] 104)).cell? ⟨wo.heap.size + 1, 1, none⟩ = some (.slice za r zc) := HS1.out.box.cell 1 rfl
       clear hcb6
       go_upto_region 19 with fail
       go_region_law ((refine step_append_form _ rfl (.tmp 60) (.tmp 66) 28 28 rfl W5.heap.size 104 104 j0 (.agg #[.bool false, .string ⟨#[]⟩]) 2 24 Tryz.underlying28 Tryz.underlying28 hj hj0 hj1 hj2 rfl (by decide) (.slice za r zc) r _ rfl HO1.out (some ⟨wr.heap.size, 0, none⟩) 1 1 [.bool cn, .string ct] rfl rfl (fun _ => ⟨_, rfl, World.news_of_block HN1.out⟩) (by intro u hu; simp at hu; rcases hu with rfl | rfl <;> rfl) (by omega) (by unfold maxLen; omega) (by omega) (by simp; omega) ?_); intro p7 cap7 w7 hown7 hg7 hat7 hlt7; have hbx7 := HS1.out.box.grown hg7 (fun e => by have := HOWN.out.lt _ e.symm; omega); have q1 : w7.cell? ⟨wo.heap.size + 1, 1, none⟩ = some (.slice za r zc) := hbx7.cell 1 rfl; have fq1 := hbx7.frozen 1; have HG7 := hid hg7; have HOWN7 := hid hown7; clear hown7 hg7 hat7 hbx7)
       all_goals
        clear q1 fq1 s3 s2 sf2 d1 m0 m1 k0
        go_wp2
        go_roundg (gk - 1)
        case rel => exact ⟨r + 1, _, by go_num, by omega, hid (by rw [HPK.out]; exact HS1.out.push (by have h1 := cl_push (pickL xc (rs.take r)) ⟨cn, ct⟩; rw [HPQ.out, List.length_append, List.length_singleton, HPQ.out] at h1; rw [← h1]; exact HOWN7.out) HG7.out 1 rfl (by omega) (by omega))⟩
        case measure => omega
      ·obtain rfl : gk = 0 := by omega
       obtain rfl : r = q := by omega
       have HPQ : Hid (pickL xc (rs.take r) = pickL xc rs) := hid (by rw [List.take_of_length_le (by have := HKL.out; omega)])
       have hpl : (pickL xc rs).length = r := by unfold pickL; rw [List.length_map]; exact HKL.out
       have hgo := HG.out.own
       rw [HPQ.out] at hgo
       have HGO := hid hgo
       have HPL2 := hid hpl
       obtain ⟨za, zc, rfl⟩ := own_slice hgo
       have hbz := HG.out.bel.size
       have HST5 := hid (HST.out.later HG.out.bel hwr (by omega))
       obtain ⟨L0, hL0⟩ := HST5.out.own.owns
       rw [HPL.out] at hL0
       obtain ⟨ya, yc, rfl⟩ := own_slice hL0
       have hL0o := hL0
       have HL0 := hid hL0
       have HYB : Hid (∀ k, (Value.slice ya p yc).ownBlock = some k → k < wo.heap.size) := hid (fun k hk => by
        obtain ⟨L1, hL1⟩ := HST.out.own.owns
        exact (hL1.lt k hk).2)
       clear hgo hpl hL0 hL0o
       have s0 : wr.cell? ⟨W3.heap.size, 2, none⟩ = some (.slice ya p yc) := HST5.out.box.cell 2 rfl
       have x0 : wr.cell? ⟨wo.heap.size + 1, 0, none⟩ = some (.string xn) := HG.out.box.cell 0 rfl
       have x1 : wr.cell? ⟨wo.heap.size + 1, 1, none⟩ = some (.slice za r zc) := HG.out.box.cell 1 rfl
       have HST6 := hid (HST5.out.later (W' := wr.alloc (.cells #[.string xn, .slice za r zc] 30)) ((Below.refl _ _).alloc (Nat.le_refl _) _) HST5.out.bel.size (by omega))
       have HL6 := hid (HL0.out.alloc (.cells #[.string xn, .slice za r zc] 30))
       have HN6 := hid (BoxN.new wr #[.string xn, .slice za r zc] 30)
       have s6 : (wr.alloc (.cells #[.string xn, .slice za r zc] 30)).cell? ⟨W3.heap.size, 2, none⟩ = some (.slice ya p yc) := HST6.out.box.cell 2 rfl
       have HNEW : Hid (RdCl (wr.alloc (.cells #[.string xn, .slice za r zc] 30)) (Own (wr.alloc (.cells #[.string xn, .slice za r zc] 30)) W4.heap.size (.slice ya p yc)) (.slice za r zc) (pickL xc rs)) := hid (by
        have h1 := HGO.out
        rw [← HPL2.out] at h1
        have h2 := rdCl_of_own h1
        have h3 : RdCl wr (fun b => W5.heap.size ≤ b ∧ b < wr.heap.size) (.slice za r zc) (pickL xc rs) := by rw [← HPL2.out]; exact h2
        refine (h3.keep (fun p hp => World.cell?_alloc_lt _ _ _ hp.2)).more fun b hb => ⟨by have := hb.1; omega, by have := hb.2; simp; omega, fun e => by have := HYB.out _ e; have := hb.1; omega⟩)
       have hwr6 := HST5.out.bel.size
       have hlo5 := HST5.out.low
       go_wp2_with (at_builtin; refine wpList_append_form _ rfl _ _ 22 22 rfl W4.heap.size 30 30 i0 (.agg #[.string ⟨#[]⟩, .slice none 0 0]) 2 40 Tryz.underlying22 Tryz.underlying22 hi hz0 hz1 hz2 rfl (by decide) (.slice ya p yc) p _ rfl HL6.out (some ⟨_, 0, none⟩) 1 1 [.string xn, .slice za r zc] rfl rfl (fun _ => ⟨_, rfl, World.news_of_block HN6.out⟩) (by intro u hu; simp at hu; rcases hu with rfl | rfl <;> rfl) (by omega) (by unfold maxLen; omega) (by omega) (by simp; omega) ?_; intro p8 cap8 w8 hown8 hg8 hat8 hlt8; have hbx8 := HST6.out.box.grown hg8 (fun e => by have := HL6.out.lt _ e.symm; omega); have q1 : w8.cell? ⟨W3.heap.size, 2, none⟩ = some (.slice ya p yc) := hbx8.cell 2 rfl; have fq1 := hbx8.frozen 2; have HG8 := hid hg8; have HOWN8 := hid hown8; have HAT8 := hid hat8; clear hown8 hg8 hat8 hbx8)
       clear q1 fq1 s0 s6 x0 x1
       go_wp2
       go_roundg (gk - 1)
       case rel => exact ⟨p + 1, _, by go_num, by omega, hid (by rw [HSNq.out]; unfold selL; rw [List.map_append, List.map_singleton]; exact HST6.out.push (x := ⟨xn, pickL xc rs⟩) (by rw [HPL.out]) (by rw [HPL.out]; exact HL6.out) HOWN8.out HG8.out HAT8.out HNEW.out (by omega) (by omega))⟩
       case measure => omega
    ·obtain rfl : gk = 0 := by omega
     obtain rfl : p = L := by omega
     have hy2 := (show BoxN wo (w.heap.size + 1) _ _ from (HST.out.keep (w.heap.size + 1) (by omega) (by omega)).trans HY4.out)
     obtain ⟨L0, hL0⟩ := HST.out.own.owns
     rw [HPL.out] at hL0
     obtain ⟨ya, yc, rfl⟩ := own_slice hL0
     have c0 := hy2.cell 0 rfl
     have c1 := hy2.cell 1 rfl
     have c2 := hy2.cell 2 rfl
     have f0 := hy2.frozen 0
     have f1 := hy2.frozen 1
     have f2 := hy2.frozen 2
     have e0 : wo.cell? ⟨W3.heap.size, 0, none⟩ = some (.int .i64 id) := HST.out.box.cell 0 rfl
     have e1 : wo.cell? ⟨W3.heap.size, 1, none⟩ = some (.string nm) := HST.out.box.cell 1 rfl
     have e2 : wo.cell? ⟨W3.heap.size, 2, none⟩ = some (.slice ya p yc) := HST.out.box.cell 2 rfl
     have HTX : Hid (xs.take p = xs) := hid (List.take_of_length_le (by have := HXL.out; omega))
     clear hy2 hL0
     go_wp2
     refine bodyPost_ret (v := .tuple #[.agg #[.int .i64 id, .string nm, .slice ya p yc], .int .i64 0]) (by simp [results, Tryz.results117, go_sem, c0, c1, c2]) rfl ⟨_, rfl, ?_, by have := HST.out.bel; repeat' (first | (with_reducible exact Below.refl _ _) | (with_reducible assumption) | (with_reducible refine below_drewN ?_) | (with_reducible refine Below.alloc ?_ ?_ _) | (with_reducible refine Below.drew ?_) | (with_reducible refine Below.setCell ?_ ?_ _) | (with_reducible refine Below.trans ?_ (Below.mono (by with_reducible assumption) ?_)) | go_size)⟩
     have hown := HST.out.own
     rw [HTX.out] at hown
     exact ((((hown.setCell (p := ⟨w.heap.size + 1, 0, none⟩) (by show w.heap.size + 1 < W4.heap.size; omega) _).setCell (p := ⟨w.heap.size + 1, 1, none⟩) (by show w.heap.size + 1 < W4.heap.size; omega) _).setCell (p := ⟨w.heap.size + 1, 2, none⟩) (by show w.heap.size + 1 < W4.heap.size; omega) _).read).more fun b hb => .inr ⟨by have := hb.1; omega, hb.2⟩
end Go.Proofs.YthblaeleogdfpaaGreatDoor

namespace Go.Proofs.YthblaeleogdfpaaGreatDoor
open Go Go.RowKit
section
variable {P : Program} {ops : Array Oper} {Q : Exit → Act → World → Prop} {md : Region.Mode} {T S : World → Prop} {st : Nat}
def wpAnyB (P : Program) (md : Region.Mode) (ops : Array Oper) (Q : Exit → Act → World → Prop) (T S : World → Prop) (st : Nat) : Nat → Array Bool → Act → World → Prop
  | 0, listed, a, w => Region.ready md ops listed = [] ∧ Q .normal a w
  | fuel + 1, listed, a, w =>
    (Region.ready md ops listed = [] → Q .normal a w) ∧
    ∀ i ∈ Region.ready md ops listed, wpOp P ops Q i (fun a' w' => (((listed.setIfInBounds i true).getD st true = false → S w') ∧ T w') ∧ wpAnyB P md ops Q T S st fuel (listed.setIfInBounds i true) a' w') a w
theorem wpAny_of_before : ∀ (fuel : Nat) (listed : Array Bool) (a : Act) (w : World), wpAnyB P md ops Q T S st fuel listed a w → wpAny P md ops Q fuel listed a w
 | 0, _, _, _, h => h
 | fuel + 1, _, _, _, h => ⟨h.1, fun i hi => wpOp_mono (fun a' w' h' => wpAny_of_before fuel _ a' w' h'.2) (h.2 i hi)⟩
theorem wpAnyB_first {i : Nat} {oi : Oper} {v : Value} (hi : ops[i]? = some oi) (hsel : ∀ (j : Nat) (o : Oper) cs b, ops[j]? = some o → o.op ≠ .select cs b)
  (hQ : ∀ c a w, Q (.panic c) (a.put oi.dst v) w → Q (.panic c) a w) (path : List Nat) (hmem : st ∈ path) (hpi : i ∉ path)
  (hpath : ∀ c ∈ path, ∀ o, ops[c]? = some o → ∃ e ∈ o.after, Region.binds md e = true ∧ (e.on = i ∨ e.on ∈ path)) :
  ∀ (fuel : Nat) (listed : Array Bool) (a : Act) (w : World),
   (∀ j oj, ops[j]? = some oj → j ≠ i → listed.getD j true = false → (∀ e ∈ oj.after, Region.binds md e = true → e.on ≠ i) → oi.apart ops oj = true) →
   i ∈ Region.ready md ops listed → YieldsIf P ops (fun w => S w ∧ T w) oi v a → S w → T w → (∀ c ∈ path, listed.getD c true = false) →
   wpAnyB P md ops Q T S st fuel (listed.setIfInBounds i true) (a.put oi.dst v) w → wpAnyB P md ops Q T S st (fuel + 1) listed a w := by
 intro fuel
 induction fuel with
 | zero =>
  intro listed a w _ hr hy hS hTw hu H
  refine ⟨fun h => (by rw [h] at hr; cases hr), fun j hj => ?_⟩
  by_cases hji : j = i
  ·subst hji; exact hy.wpOp hi ⟨hS, hTw⟩ ⟨⟨fun _ => hS, hTw⟩, H⟩
  ·have := ready_mono hj hji
   rw [H.1] at this
   cases this
 | succ fuel ih =>
  intro listed a w hfree hr hy hS hTw hu H
  refine ⟨fun h => (by rw [h] at hr; cases hr), fun j hj => ?_⟩
  by_cases hji : j = i
  ·subst hji; exact hy.wpOp hi ⟨hS, hTw⟩ ⟨⟨fun _ => hS, hTw⟩, H⟩
  ·have h1 := H.2 j (ready_mono hj hji)
   obtain ⟨hjun, oj, hoj, hall⟩ := mem_ready.1 hj
   have hnot : ∀ e ∈ oj.after, Region.binds md e = true → e.on ≠ i := fun e he hb heq => by
    have h1 := hall e he hb
    have h0 := (mem_ready.1 hr).1
    rw [heq] at h1
    rcases Nat.lt_or_ge i listed.size with h' | h'
    ·simp [h'] at h0 h1; rw [h0] at h1; cases h1
    ·simp [Array.getElem?_eq_none h'] at h1
   have hjp : j ∉ path := fun hm => by
    obtain ⟨e, he, hb, h | h⟩ := hpath j hm oj hoj
    ·exact hnot e he hb h
    ·have h1 := hall e he hb
     have h0 := hu _ h
     rcases Nat.lt_or_ge e.on listed.size with h' | h'
     ·simp [h'] at h0 h1; rw [h0] at h1; cases h1
     ·simp [Array.getElem?_eq_none h'] at h1
   have h2 := wpOp_putIf hoj (hfree j oj hoj hji hjun hnot) (fun cs b => hsel i oi cs b hi) (fun cs b => hsel j oj cs b hoj) hQ hy h1
   have hfree' : ∀ k ok, ops[k]? = some ok → k ≠ i → (listed.setIfInBounds j true).getD k true = false →
     (∀ e ∈ ok.after, Region.binds md e = true → e.on ≠ i) → oi.apart ops ok = true := fun k ok hk hki hun hno => by
    refine hfree k ok hk hki ?_ hno
    by_cases hjk : j = k
    ·subst hjk; exact hjun
    ·rw [getD_set_ne true hjk] at hun; exact hun
   have hu1 : ∀ c ∈ path, (listed.setIfInBounds j true).getD c true = false := fun c hc => by rw [getD_set_ne true (show j ≠ c from fun e => hjp (by rw [e]; exact hc))]; exact hu c hc
   have hu2 : ((listed.setIfInBounds i true).setIfInBounds j true).getD st true = false := by rw [getD_set_ne true (show j ≠ st from fun e => hjp (by rw [e]; exact hmem)), getD_set_ne true (show i ≠ st from fun e => hpi (by rw [e]; exact hmem))]; exact hu st hmem
   refine wpOp_mono (fun a' w' h3 => ⟨⟨fun _ => h3.2.1.1 hu2, h3.2.1.2⟩, ih (listed.setIfInBounds j true) a' w' hfree' (ready_mono hr (Ne.symm hji)) h3.1 (h3.2.1.1 hu2) h3.2.1.2 hu1 ?_⟩) h2
   rw [Array.setIfInBounds_comm _ _ hji]
   exact h3.2.2
theorem wpAnyB_firstT {i : Nat} {oi : Oper} {v : Value} (hi : ops[i]? = some oi) (hsel : ∀ (j : Nat) (o : Oper) cs b, ops[j]? = some o → o.op ≠ .select cs b)
  (hQ : ∀ c a w, Q (.panic c) (a.put oi.dst v) w → Q (.panic c) a w) (his : i ≠ st) :
  ∀ (fuel : Nat) (listed : Array Bool) (a : Act) (w : World),
   (∀ j oj, ops[j]? = some oj → j ≠ i → listed.getD j true = false → (∀ e ∈ oj.after, Region.binds md e = true → e.on ≠ i) → oi.apart ops oj = true) →
   i ∈ Region.ready md ops listed → YieldsIf P ops T oi v a → (listed.getD st true = false → S w) → T w →
   wpAnyB P md ops Q T S st fuel (listed.setIfInBounds i true) (a.put oi.dst v) w → wpAnyB P md ops Q T S st (fuel + 1) listed a w := by
 intro fuel
 induction fuel with
 | zero =>
  intro listed a w _ hr hy hS hTw H
  refine ⟨fun h => (by rw [h] at hr; cases hr), fun j hj => ?_⟩
  by_cases hji : j = i
  ·subst hji; exact hy.wpOp hi hTw ⟨⟨fun h => hS (by rw [getD_set_ne true his] at h; exact h), hTw⟩, H⟩
  ·have := ready_mono hj hji
   rw [H.1] at this
   cases this
 | succ fuel ih =>
  intro listed a w hfree hr hy hS hTw H
  refine ⟨fun h => (by rw [h] at hr; cases hr), fun j hj => ?_⟩
  by_cases hji : j = i
  ·subst hji; exact hy.wpOp hi hTw ⟨⟨fun h => hS (by rw [getD_set_ne true his] at h; exact h), hTw⟩, H⟩
  ·have h1 := H.2 j (ready_mono hj hji)
   obtain ⟨hjun, oj, hoj, hall⟩ := mem_ready.1 hj
   have hnot : ∀ e ∈ oj.after, Region.binds md e = true → e.on ≠ i := fun e he hb heq => by
    have h1 := hall e he hb
    have h0 := (mem_ready.1 hr).1
    rw [heq] at h1
    rcases Nat.lt_or_ge i listed.size with h' | h'
    ·simp [h'] at h0 h1; rw [h0] at h1; cases h1
    ·simp [Array.getElem?_eq_none h'] at h1
   have h2 := wpOp_putIf hoj (hfree j oj hoj hji hjun hnot) (fun cs b => hsel i oi cs b hi) (fun cs b => hsel j oj cs b hoj) hQ hy h1
   have hfree' : ∀ k ok, ops[k]? = some ok → k ≠ i → (listed.setIfInBounds j true).getD k true = false →
     (∀ e ∈ ok.after, Region.binds md e = true → e.on ≠ i) → oi.apart ops ok = true := fun k ok hk hki hun hno => by
    refine hfree k ok hk hki ?_ hno
    by_cases hjk : j = k
    ·subst hjk; exact hjun
    ·rw [getD_set_ne true hjk] at hun; exact hun
   have hback : ∀ w' : World, (((listed.setIfInBounds i true).setIfInBounds j true).getD st true = false → S w') → (listed.setIfInBounds j true).getD st true = false → S w' := fun w' h h' => h (by
    rw [Array.setIfInBounds_comm _ _ (Ne.symm hji), getD_set_ne true his]
    exact h')
   refine wpOp_mono (fun a' w' h3 => ⟨⟨hback w' h3.2.1.1, h3.2.1.2⟩, ih (listed.setIfInBounds j true) a' w' hfree' (ready_mono hr (Ne.symm hji)) h3.1 (hback w' h3.2.1.1) h3.2.1.2 ?_⟩) h2
   rw [Array.setIfInBounds_comm _ _ hji]
   exact h3.2.2
def waitsFor (md : Region.Mode) (ops : Array Oper) (st i : Nat) (listed : Array Bool) (path : List Nat) : Bool :=
  path.contains st && !path.contains i && path.all fun c => listed.getD c true == false && match ops[c]? with
    | none => true
    | some o => o.after.any fun e => Region.binds md e && (e.on == i || path.contains e.on)
theorem waitsFor_spec {i : Nat} {listed : Array Bool} {path : List Nat} (h : waitsFor md ops st i listed path = true) :
  st ∈ path ∧ i ∉ path ∧ (∀ c ∈ path, ∀ o, ops[c]? = some o → ∃ e ∈ o.after, Region.binds md e = true ∧ (e.on = i ∨ e.on ∈ path)) ∧ ∀ c ∈ path, listed.getD c true = false := by
 unfold waitsFor at h
 rw [Bool.and_eq_true, Bool.and_eq_true, List.all_eq_true] at h
 obtain ⟨⟨h1, h2⟩, h3⟩ := h
 refine ⟨by simpa using h1, by simpa using h2, fun c hc o ho => ?_, fun c hc => ?_⟩
 ·have h4 := h3 c hc
  rw [ho, Bool.and_eq_true] at h4
  obtain ⟨k, hk, hp⟩ := Array.any_eq_true.1 h4.2
  rw [Bool.and_eq_true] at hp
  exact ⟨_, Array.getElem_mem hk, hp.1, by simpa using hp.2⟩
 ·have h4 := h3 c hc
  rw [Bool.and_eq_true] at h4
  simpa using h4.1
theorem wpAnyB_take {i : Nat} {oi : Oper} {v : Value} {fuel : Nat} {listed : Array Bool} {a : Act} {w : World} (hi : ops[i]? = some oi)
  (hs : Region.noSelect ops = true) (hf : Region.free md ops listed i = true) (hr : (Region.ready md ops listed).contains i = true)
  (path : List Nat) (hst : waitsFor md ops st i listed path = true)
  (hQ : ∀ c a w, Q (.panic c) (a.put oi.dst v) w → Q (.panic c) a w) (hy : YieldsIf P ops (fun w => S w ∧ T w) oi v a) (hS : S w) (hTw : T w)
  (h : wpAnyB P md ops Q T S st fuel (listed.setIfInBounds i true) (a.put oi.dst v) w) : wpAnyB P md ops Q T S st (fuel + 1) listed a w := by
 obtain ⟨h1, h2, h3, h4⟩ := waitsFor_spec hst
 exact wpAnyB_first hi (Region.noSelect_spec hs) hQ path h1 h2 h3 fuel listed a w (Region.free_spec hi hf) (by simpa using hr) hy hS hTw h4 h
theorem wpAnyB_takeT {i : Nat} {oi : Oper} {v : Value} {fuel : Nat} {listed : Array Bool} {a : Act} {w : World} (hi : ops[i]? = some oi)
  (hs : Region.noSelect ops = true) (hf : Region.free md ops listed i = true) (hr : (Region.ready md ops listed).contains i = true)
  (hst : decide (i ≠ st) = true)
  (hQ : ∀ c a w, Q (.panic c) (a.put oi.dst v) w → Q (.panic c) a w) (hy : YieldsIf P ops T oi v a) (hS : listed.getD st true = false → S w) (hTw : T w)
  (h : wpAnyB P md ops Q T S st fuel (listed.setIfInBounds i true) (a.put oi.dst v) w) : wpAnyB P md ops Q T S st (fuel + 1) listed a w :=
 wpAnyB_firstT hi (Region.noSelect_spec hs) hQ (by simpa using hst) fuel listed a w (Region.free_spec hi hf) (by simpa using hr) hy hS hTw h
theorem tB {i : Nat} {oi : Oper} {v : Value} {fuel : Nat} {listed : Array Bool} {a : Act} {w : World} (hi : ops[i]? = some oi) (hQ : ∀ c a w, Q (.panic c) (a.put oi.dst v) w → Q (.panic c) a w) (hy : YieldsIf P ops T oi v a) (hS : listed.getD st true = false → S w) (h : wpAnyB P md ops Q T S st fuel (listed.setIfInBounds i true) (a.put oi.dst v) w)
  (hTw : T w := by exact trivial) (hs : Region.noSelect ops = true := by kernel_rfl) (hf : Region.free md ops listed i = true := by kernel_rfl) (hr : (Region.ready md ops listed).contains i = true := by kernel_rfl) (hst : decide (i ≠ st) = true := by kernel_rfl) :
  wpAnyB P md ops Q T S st (fuel + 1) listed a w := wpAnyB_takeT hi hs hf hr hst hQ hy hS hTw h
theorem tA {i : Nat} {oi : Oper} {v : Value} {fuel : Nat} {listed : Array Bool} {a : Act} {w : World} (path : List Nat) (hi : ops[i]? = some oi) (hQ : ∀ c a w, Q (.panic c) (a.put oi.dst v) w → Q (.panic c) a w) (hy : YieldsIf P ops (fun w => S w ∧ T w) oi v a) (hS : S w) (h : wpAnyB P md ops Q T S st fuel (listed.setIfInBounds i true) (a.put oi.dst v) w)
  (hTw : T w := by exact trivial) (hs : Region.noSelect ops = true := by kernel_rfl) (hf : Region.free md ops listed i = true := by kernel_rfl) (hr : (Region.ready md ops listed).contains i = true := by kernel_rfl) (hst : waitsFor md ops st i listed path = true := by kernel_rfl) :
  wpAnyB P md ops Q T S st (fuel + 1) listed a w := wpAnyB_take hi hs hf hr path hst hQ hy hS hTw h
def AllReadyB (P : Program) (md : Region.Mode) (ops : Array Oper) (Q : Exit → Act → World → Prop) (T S : World → Prop) (st : Nat) (fuel : Nat) (listed : Array Bool) (a : Act) (w : World) (rs : List Nat) : Prop :=
  ∀ i ∈ rs, wpOp P ops Q i (fun a' w' => (((listed.setIfInBounds i true).getD st true = false → S w') ∧ T w') ∧ wpAnyB P md ops Q T S st fuel (listed.setIfInBounds i true) a' w') a w
theorem AllReadyB.nil {fuel : Nat} {listed : Array Bool} {a : Act} {w : World} : AllReadyB P md ops Q T S st fuel listed a w [] := fun _ h => by cases h
theorem AllReadyB.cons {fuel : Nat} {listed : Array Bool} {a : Act} {w : World} {i : Nat} {o : Oper} {rs : List Nat} (ho : ops[i]? = some o)
  (h : ∀ K' : Act → World → Prop, Shut (∀ a w, ((listed.setIfInBounds i true).getD st true = false → S w) → T w → wpAnyB P md ops Q T S st fuel (listed.setIfInBounds i true) a w → K' a w) → if Region.wanted o (yielded ops a.tmps) = true then Oper.wp P o a w K' Q else K' (a.put o.dst undef) w)
  (hs : AllReadyB P md ops Q T S st fuel listed a w rs) : AllReadyB P md ops Q T S st fuel listed a w (i :: rs) := fun j hj => by
 rcases List.mem_cons.1 hj with rfl | hj
 ·exact wpOp_step ho (fun K' hK => h K' (fun a w hS hTw hW => hK a w ⟨⟨hS, hTw⟩, hW⟩))
 ·exact hs j hj
theorem wpAnyB_ready {rs : List Nat} {fuel : Nat} {listed : Array Bool} {a : Act} {w : World} (hr : Region.ready md ops listed = rs) (hne : rs ≠ [])
  (h : AllReadyB P md ops Q T S st fuel listed a w rs) : wpAnyB P md ops Q T S st (fuel + 1) listed a w := ⟨fun h0 => absurd (hr ▸ h0) hne, hr ▸ h⟩
theorem wpAnyB_done {listed : Array Bool} {a : Act} {w : World} (hr : Region.ready md ops listed = []) (h : Q .normal a w) :
  ∀ fuel, wpAnyB P md ops Q T S st fuel listed a w
 | 0 => ⟨hr, h⟩
 | _ + 1 => ⟨fun _ => h, by rw [hr]; simp⟩
theorem wp_region_before {id : Nat} {a : Act} {w : World} (hm : P.follows .mixedOrders = true)
  (h : wpAnyB P .any ops Q T S st ops.size (Array.replicate ops.size false) a w.drew) : (Code.region id ops true).wp P Q a w :=
 wp_region_any hm (wpAny_of_before _ _ _ _ h)
end
end Go.Proofs.YthblaeleogdfpaaGreatDoor
