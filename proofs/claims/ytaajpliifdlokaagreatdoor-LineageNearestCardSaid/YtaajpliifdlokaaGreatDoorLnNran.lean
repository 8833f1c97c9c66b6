/- Contract of the reference's Select. Digits in base 2^32 as lists of natural numbers: their value, the canonical list of a value, comparison. No program in sight. What every walk of this family uses: the words in which memory is described, small facts. No program in sight. -/
import Derived.Test.YtaajpliifdlokaaGreatDoorLnNrag
import Derived.WalkKit
import Derived.WalkSpells
import Derived.WalkLawsBesides
import Derived.BigRegion
import Derived.BigQuiet
import Derived.Deep.QuietTactic
import Derived.Deep.RegionHeld3
import Derived.Deep.LoopGhost
import Derived.Handy
set_option linter.unusedVariables false
set_option linter.unusedSimpArgs false
namespace Go.Proofs.YtaajpliifdlokaaGreatDoor
open Go.RowKit
theorem takeN_snoc {rs : List Nat} {q : Nat} (h : q < rs.length) : rs.take (q + 1) = rs.take q ++ [rs.getD q 0] := by
  rw [List.take_succ_eq_append_getElem h]
  simp [List.getD, h]
def pickL (c : List Cl) (rs : List Nat) : List Cl := rs.map fun r => c.getD r Cl.z
set_option maxRecDepth 100000 in
set_option maxHeartbeats 4000000 in
theorem ref03_Select (t : Ta) (v u : Value) (rs : List Nat) (B n : Nat) (w : World) (ht : TabV t) (hv : RdCo w (· < B) v t.cols) (hu : Rd w B u rs.length (natF rs)) (hB : B ≤ w.heap.size) (hT : Tabs w) (hc : ∀ x ∈ t.cols, x.cells.length = n) (hn : rowsC t.cols = n) (hrs : ∀ r ∈ rs, r < n) (hl : rs.length ≤ 4096) :
  Calls Tryz.prog 111 #[.agg #[.int .i64 t.id, .string t.name, v], u] w (PickedT w 0 t.id t.name (selL t.cols rs)) := by
 have HVL := hid (fun W (hW : Below w.heap.size w W) => ref_ValidTab t v B W ht (hv.keep fun p (hp : p.block < B) => hW.cell (p := p) (by omega)) (Nat.le_trans hB hW.size) (hT.below hW))
 have HRO := hid (fun W (hW : Below w.heap.size w W) => ref03_Rows t.id t.name v t.cols B W (hv.keep fun p (hp : p.block < B) => hW.cell (p := p) (by omega)) (Nat.le_trans hB hW.size))
 rw [hn] at HRO
 obtain ⟨i0, hi, hz0, hz1, hz2⟩ := info_parts info_col
 obtain ⟨j0, hj, hj0, hj1, hj2⟩ := info_parts info_cell
 obtain ⟨cv, hcv, hcl⟩ := hv
 obtain ⟨a, c, rfl, hcc, hm, hr⟩ := hcv
 obtain ⟨ua, uc, rfl, huc, hum, hur⟩ := hu
 have hxl64 : t.cols.length ≤ 64 := ht.2.2.2.1
 have HR := hid hr
 have HCL := hid hcl
 have HUR := hid hur
 have hn4 : t.cols.length ≠ 0 → n ≤ 4096 := fun h => by
  obtain ⟨k, hk, hx⟩ := ht.cv
  have := rowsC_of hx (by omega)
  omega
 have HN4 := hid hn4
 have HC := hid (fun q (hq : q < t.cols.length) => hc _ (getD_mem hq Co.z))
 have HRS := hid (fun q (hq : q < rs.length) => hrs _ (getD_mem hq 0))
 have HSN := hid (fun q (h : q < t.cols.length) => @take_snocC t.cols q h)
 have HTN := hid (fun q (h : q < rs.length) => @takeN_snoc rs q h)
 clear hr hcl hur hc hrs ht hT hn hn4
 obtain ⟨id, nm, xs⟩ := t
 simp only at *
 generalize hxl : xs.length = L at *
 have HXL := hid hxl
 clear hxl
 generalize hkl : rs.length = m at *
 have HKL := hid hkl
 clear hkl
 unfold maxLen at hm hum
 have HX0 := hid ((BoxN.new w #[.int .i64 id, .string nm, .slice a L c] 51).alloc (.cells #[.int .i64 0, .string ⟨#[]⟩, .slice none 0 0] 51))
 have hy0 := BoxN.new (w.alloc (.cells #[.int .i64 id, .string nm, .slice a L c] 51)) #[.int .i64 0, .string ⟨#[]⟩, .slice none 0 0] 51
 rw [World.size_alloc] at hy0
 have HY0 := hid hy0
 have HB0 := hid (((Below.refl w.heap.size w).alloc (Nat.le_refl _) (.cells #[.int .i64 id, .string nm, .slice a L c] 51)).alloc (by simp) (.cells #[.int .i64 0, .string ⟨#[]⟩, .slice none 0 0] 51))
 have hz0' : ((w.alloc (.cells #[.int .i64 id, .string nm, .slice a L c] 51)).alloc (.cells #[.int .i64 0, .string ⟨#[]⟩, .slice none 0 0] 51)).heap.size = w.heap.size + 2 := by simp
 have c0 := HX0.out.cell 0 rfl
 have c1 := HX0.out.cell 1 rfl
 have c2 := HX0.out.cell 2 rfl
 clear hy0
 go_enter Tryz.func111, Tryz.ntmps111
 generalize hLA : Code.loop _ = LA
 go_wp2_with fail
 generalize (w.alloc (.cells #[.int .i64 id, .string nm, .slice a L c] 51)).alloc (.cells #[.int .i64 0, .string ⟨#[]⟩, .slice none 0 0] 51) = W0 at *
 with_reducible refine (HVL.out W0 HB0.out).mono ?_
 rintro e w1 ⟨rfl, hb1⟩
 have HB1 := hid (HB0.out.trans (hb1.mono (by omega)))
 have HX1 := hid (HX0.out.below hb1 HX0.out.lt)
 have HY1 := hid (HY0.out.below hb1 HY0.out.lt)
 have hz1' := hb1.size
 clear c0 c1 c2 hb1 HVL
 go_wp2_with fail
 subst hLA
 go_loopg [20] m (fun N i wr => ∃ q : Nat, i = .int .i64 (q : Int) ∧ q + N = m ∧ Hid (Below w1.heap.size w1 wr))
 case atStart => exact ⟨0, rfl, by omega, hid (Below.refl _ _)⟩
 case round =>
  obtain ⟨q, rfl, hq, HBW⟩ := hrel
  have hwz := HBW.out.size
  by_cases hp : 0 < gk
  ·obtain ⟨b, o, rfl, hb, hcell⟩ := HUR.out (by omega)
   have hb' : b < B := hb
   have HBW2 := hid (HB1.out.trans (HBW.out.mono (by omega)))
   have k0 : wr.cell? ⟨b, o + q, none⟩ = some (.int .i64 ((rs.getD q 0 : Nat) : Int)) := (HBW2.out.cell (p := ⟨b, o + q, none⟩) (by show b < w.heap.size; omega)).trans (hcell q (by omega))
   have hlt := HRS.out q (by omega)
   clear hcell
   generalize rs.getD q 0 = r at *
   have hx1 := HX1.out.below HBW.out HX1.out.lt
   have c0 := hx1.cell 0 rfl
   have c1 := hx1.cell 1 rfl
   have c2 := hx1.cell 2 rfl
   have hge : decide ((n : Int) ≤ (r : Int)) = false := decide_eq_false (by omega)
   have hge2 : decide (n ≤ r) = false := decide_eq_false (by omega)
   clear hx1
   go_wp2_with fail
   with_reducible refine (HRO.out _ HBW2.out).mono ?_
   rintro e w2 ⟨rfl, hb2⟩
   have HB2 := hid (HBW.out.trans (hb2.mono hwz))
   clear hb2 c0 c1 c2 k0
   go_wp2_with fail
   go_roundg (gk - 1)
   case rel => exact ⟨q + 1, by go_num, by omega, HB2⟩
   case measure => omega
  ·obtain rfl : gk = 0 := by omega
   obtain rfl : q = m := by omega
   have HX2 := hid (HX1.out.below HBW.out HX1.out.lt)
   have HY2 := hid (HY1.out.below HBW.out HY1.out.lt)
   have HB2 := hid (HB1.out.trans (HBW.out.mono (by omega)))
   obtain ⟨W3, rfl⟩ : ∃ W3, W3 = wr := ⟨wr, rfl⟩
   have c0 := HX2.out.cell 0 rfl
   have c1 := HX2.out.cell 1 rfl
   have c2 := HX2.out.cell 2 rfl
   have hd : decide ((4096 : Int) < (q : Int)) = false := decide_eq_false (by omega)
   have hd2 : decide (4096 < q) = false := decide_eq_false (by omega)
   have HO4 := hid (BoxN.new W3 #[.int .i64 id, .string nm, .slice none 0 0] 51)
   have HX4 := hid (HX2.out.alloc (.cells #[.int .i64 id, .string nm, .slice none 0 0] 51))
   have HY4 := hid (HY2.out.alloc (.cells #[.int .i64 id, .string nm, .slice none 0 0] 51))
   have HB4 := hid (HB2.out.alloc (by omega) (.cells #[.int .i64 id, .string nm, .slice none 0 0] 51))
   have hz4' : (W3.alloc (.cells #[.int .i64 id, .string nm, .slice none 0 0] 51)).heap.size = W3.heap.size + 1 := by simp
   have c4 := HX4.out.cell 2 rfl
   go_wp2_with fail
   generalize W3.alloc (.cells #[.int .i64 id, .string nm, .slice none 0 0] 51) = W4 at *
   clear c0 c1 c2 c4 hd hd2 HBW
   go_loopg [46] L (fun N i wr => ∃ (p : Nat) (y : Value), i = .int .i64 (p : Int) ∧ p + N = L ∧ Hid (ToSt w W4 wr W3.heap.size W4.heap.size id nm y (selL (xs.take p) rs)))
   case atStart => exact ⟨0, .slice none 0 0, rfl, by omega, hid ⟨HB4.out, HO4.out, CoSt.start (Nat.le_refl _), Nat.le_refl _, fun _ _ _ => rfl⟩⟩
   case round =>
    obtain ⟨p, y, rfl, hpL, HST⟩ := hrel
    have hlo := HST.out.low
    have hwr := HST.out.bel.size
    have HPL : Hid ((selL (xs.take p) rs).length = p) := hid (by unfold selL; rw [List.length_map, List.length_take]; have := HXL.out; omega)
    obtain ⟨wo, rfl⟩ : ∃ wo, wo = wr := ⟨wr, rfl⟩
    by_cases hpp : 0 < gk
    ·obtain ⟨ba, oa, rfl, hba, hcella⟩ := HR.out (by omega)
     have hba' : ba < B := hba
     have hqL : p < L := by omega
     have k1 : wo.cell? ⟨ba, oa + p * 2, none⟩ = some (.string (xs.getD p Co.z).name) := (HST.out.bel.cell (p := ⟨ba, oa + p * 2, none⟩) (by show ba < w.heap.size; omega)).trans (hcella p hqL 0 (by omega))
     have k2 : wo.cell? ⟨ba, oa + p * 2 + 1, none⟩ = some (cv p) := (HST.out.bel.cell (p := ⟨ba, oa + p * 2 + 1, none⟩) (by show ba < w.heap.size; omega)).trans (hcella p hqL 1 (by omega))
     obtain ⟨ca, ck, hcq, -, hckm, -⟩ := HCL.out p hqL
     have HRQ := hid (HCL.out p hqL)
     have hcn := HC.out p hqL
     rw [hcq, hcn] at k2
     rw [hcq] at HRQ
     have HSNq := hid (HSN.out p hqL)
     have hn4 := HN4.out (by omega)
     clear hcella hcq
     generalize xs.getD p Co.z = x at *
     obtain ⟨xn, xc⟩ := x
     simp only at k1 k2 HRQ hcn
     have HCN := hid hcn
     rw [hcn] at HRQ
     clear hcn
     have hcb := (BoxN.new wo #[.string xn, .slice ca n ck] 55).alloc (.cells #[.string xn, .slice none 0 0] 55)
     have hxb := BoxN.new (wo.alloc (.cells #[.string xn, .slice ca n ck] 55)) #[.string xn, .slice none 0 0] 55
     rw [World.size_alloc] at hxb
     have HCB := hid hcb
     have HXB := hid hxb
     have HBO := hid ((((Below.refl wo.heap.size wo).alloc (Nat.le_refl _) (.cells #[.string xn, .slice ca n ck] 55))).alloc (by simp) (.cells #[.string xn, .slice none 0 0] 55))
     have hz5 : ((wo.alloc (.cells #[.string xn, .slice ca n ck] 55)).alloc (.cells #[.string xn, .slice none 0 0] 55)).heap.size = wo.heap.size + 2 := by simp
     clear hcb hxb
     generalize hLC : Code.loop _ = LC
     go_wp2_with fail
     generalize (wo.alloc (.cells #[.string xn, .slice ca n ck] 55)).alloc (.cells #[.string xn, .slice none 0 0] 55) = W5 at *
     subst hLC
     clear k1 k2
     go_loopg [55] q (fun N i wr => ∃ (r : Nat) (z : Value), i = .int .i64 (r : Int) ∧ r + N = q ∧ Hid (GrowSt wo W5 wr (wo.heap.size + 1) W5.heap.size 55 (fun s => #[.string xn, s]) 84 2 z r (flatK 2 r (clF (pickL xc (rs.take r))))))
     case atStart => exact ⟨0, .slice none 0 0, rfl, by omega, hid ⟨HBO.out, HXB.out, World.ownsRow_nil _ _ _ _, Nat.le_refl _, fun _ _ _ => rfl⟩⟩
     case round =>
      obtain ⟨r, z, rfl, hrq, HG⟩ := hrel
      have hlo2 := HG.out.low
      by_cases hrp : 0 < gk
      ·obtain ⟨b, o, rfl, hb, hcell⟩ := HUR.out (by omega)
       have hb' : b < B := hb
       have HB5 := hid (HST.out.bel.trans (HG.out.bel.mono hwr))
       have k0 : wr.cell? ⟨b, o + r, none⟩ = some (.int .i64 ((rs.getD r 0 : Nat) : Int)) := (HB5.out.cell (p := ⟨b, o + r, none⟩) (by show b < w.heap.size; omega)).trans (hcell r (by omega))
       have hlt := HRS.out r (by omega)
       have HTNr := hid (HTN.out r (by omega))
       obtain ⟨_, _, e9, -, -, h9⟩ := HRQ.out
       obtain ⟨rfl, -, rfl⟩ := Value.slice.inj e9
       obtain ⟨b2, o2, rfl, hb2, hcell2⟩ := h9 (by have := HCN.out; omega)
       have hb2' : b2 < B := hb2
       clear hcell e9 h9
       generalize hrr : rs.getD r 0 = rr at *
       have HRR := hid hrr
       clear hrr
       have hlt' : (rr : Int) < (n : Int) := by omega
       have m0 : wr.cell? ⟨b2, o2 + rr * 2, none⟩ = some (.bool (xc.getD rr Cl.z).null) := (HB5.out.cell (p := ⟨b2, o2 + rr * 2, none⟩) (by show b2 < w.heap.size; omega)).trans (hcell2 rr (by have := HCN.out; omega) 0 (by omega))
       have m1 : wr.cell? ⟨b2, o2 + rr * 2 + 1, none⟩ = some (.string (xc.getD rr Cl.z).text) := (HB5.out.cell (p := ⟨b2, o2 + rr * 2 + 1, none⟩) (by show b2 < w.heap.size; omega)).trans (hcell2 rr (by have := HCN.out; omega) 1 (by omega))
       clear hcell2
       have HPK : Hid (pickL xc (rs.take (r + 1)) = pickL xc (rs.take r) ++ [xc.getD rr Cl.z]) := hid (by
        unfold pickL
        rw [HTNr.out, List.map_append, List.map_singleton])
       have HPQ : Hid ((pickL xc (rs.take r)).length = r) := hid (by unfold pickL; rw [List.length_map, List.length_take]; have := HKL.out; omega)
       generalize xc.getD rr Cl.z = cc at *
       obtain ⟨cn, ct⟩ := cc
       simp only at m0 m1
       have hcb6 := ((HG.out.keep wo.heap.size (by omega) (by omega)).trans HCB.out)
       have d1 : wr.cell? ⟨wo.heap.size, 1, none⟩ = some (.slice (some ⟨b2, o2, none⟩) n ck) := (show BoxN wr wo.heap.size _ _ from hcb6).cell 1 rfl
       have s2 : wr.cell? ⟨wo.heap.size + 1, 1, none⟩ = some z := HG.out.box.cell 1 rfl
       have sf2 := HG.out.box.frozen 1
       have HOWN := hid HG.out.own
       obtain ⟨za, zc, rfl⟩ := own_slice HG.out.own
       have HO1 := hid ((HOWN.out.alloc (.cells #[.bool cn, .string ct] 84)).drew)
       have HN1 := hid (show BoxN (wr.alloc (.cells #[.bool cn, .string ct] 84)).drew wr.heap.size 84 #[.bool cn, .string ct] from BoxN.new wr _ _)
       have hbz := HG.out.bel.size
       have HS1 := hid (HG.out.later (W' := (wr.alloc (.cells #[.bool cn, .string ct] 84)).drew) (by have h1 := Below.refl wr.heap.size wr; repeat' (first | (with_reducible exact Below.refl _ _) | (with_reducible assumption) | (with_reducible refine below_drewN ?_) | (with_reducible refine Below.alloc ?_ ?_ _) | (with_reducible refine Below.drew ?_) | (with_reducible refine Below.setCell ?_ ?_ _) | (with_reducible refine Below.trans ?_ (Below.mono (by with_reducible assumption) ?_)) | go_size)) hbz)
       have s3 : (wr.alloc (.cells #[.bool cn, .string ct] 84)).cell? ⟨wo.heap.size + 1, 1, none⟩ = some (.slice za r zc) := HS1.out.box.cell 1 rfl
       clear hcb6
       go_upto_region 19 with fail
       go_region_law ((refine step_append_form _ rfl (.tmp 60) (.tmp 66) 53 53 rfl W5.heap.size 84 84 j0 (.agg #[.bool false, .string ⟨#[]⟩]) 2 24 Tryz.underlying53 Tryz.underlying53 hj hj0 hj1 hj2 rfl (by decide) (.slice za r zc) r _ rfl HO1.out (some ⟨wr.heap.size, 0, none⟩) 1 1 [.bool cn, .string ct] rfl rfl (fun _ => ⟨_, rfl, World.news_of_block HN1.out⟩) (by intro u hu; simp at hu; rcases hu with rfl | rfl <;> rfl) (by omega) (by unfold maxLen; omega) (by omega) (by simp; omega) ?_); intro p7 cap7 w7 hown7 hg7 hat7 hlt7; have hbx7 := HS1.out.box.grown hg7 (fun e => by have := HOWN.out.lt _ e.symm; omega); have q1 : w7.cell? ⟨wo.heap.size + 1, 1, none⟩ = some (.slice za r zc) := hbx7.cell 1 rfl; have fq1 := hbx7.frozen 1; have HG7 := hid hg7; have HOWN7 := hid hown7; clear hown7 hg7 hat7 hbx7)
       all_goals
        clear q1 fq1 s3 s2 sf2 d1 m0 m1 k0
        go_wp2
        go_roundg (gk - 1)
        case rel => exact ⟨r + 1, _, by go_num, by omega, hid (by rw [HPK.out]; exact HS1.out.push (by have h1 := cl_push (pickL xc (rs.take r)) ⟨cn, ct⟩; rw [HPQ.out, List.length_append, List.length_singleton, HPQ.out] at h1; rw [← h1]; exact HOWN7.out) HG7.out 1 rfl (by omega) (by omega))⟩
        case measure => omega
      ·obtain rfl : gk = 0 := by omega
       obtain rfl : r = q := by omega
       have HPQ : Hid (pickL xc (rs.take r) = pickL xc rs) := hid (by rw [List.take_of_length_le (by have := HKL.out; omega)])
       have hpl : (pickL xc rs).length = r := by unfold pickL; rw [List.length_map]; exact HKL.out
       have hgo := HG.out.own
       rw [HPQ.out] at hgo
       have HGO := hid hgo
       have HPL2 := hid hpl
       obtain ⟨za, zc, rfl⟩ := own_slice hgo
       have hbz := HG.out.bel.size
       have HST5 := hid (HST.out.later HG.out.bel hwr (by omega))
       obtain ⟨L0, hL0⟩ := HST5.out.own.owns
       rw [HPL.out] at hL0
       obtain ⟨ya, yc, rfl⟩ := own_slice hL0
       have hL0o := hL0
       have HL0 := hid hL0
       have HYB : Hid (∀ k, (Value.slice ya p yc).ownBlock = some k → k < wo.heap.size) := hid (fun k hk => by
        obtain ⟨L1, hL1⟩ := HST.out.own.owns
        exact (hL1.lt k hk).2)
       clear hgo hpl hL0 hL0o
       have s0 : wr.cell? ⟨W3.heap.size, 2, none⟩ = some (.slice ya p yc) := HST5.out.box.cell 2 rfl
       have x0 : wr.cell? ⟨wo.heap.size + 1, 0, none⟩ = some (.string xn) := HG.out.box.cell 0 rfl
       have x1 : wr.cell? ⟨wo.heap.size + 1, 1, none⟩ = some (.slice za r zc) := HG.out.box.cell 1 rfl
       have HST6 := hid (HST5.out.later (W' := wr.alloc (.cells #[.string xn, .slice za r zc] 55)) ((Below.refl _ _).alloc (Nat.le_refl _) _) HST5.out.bel.size (by omega))
       have HL6 := hid (HL0.out.alloc (.cells #[.string xn, .slice za r zc] 55))
       have HN6 := hid (BoxN.new wr #[.string xn, .slice za r zc] 55)
       have s6 : (wr.alloc (.cells #[.string xn, .slice za r zc] 55)).cell? ⟨W3.heap.size, 2, none⟩ = some (.slice ya p yc) := HST6.out.box.cell 2 rfl
       have HNEW : Hid (RdCl (wr.alloc (.cells #[.string xn, .slice za r zc] 55)) (Own (wr.alloc (.cells #[.string xn, .slice za r zc] 55)) W4.heap.size (.slice ya p yc)) (.slice za r zc) (pickL xc rs)) := hid (by
        have h1 := HGO.out
        rw [← HPL2.out] at h1
        have h2 := rdCl_of_own h1
        have h3 : RdCl wr (fun b => W5.heap.size ≤ b ∧ b < wr.heap.size) (.slice za r zc) (pickL xc rs) := by rw [← HPL2.out]; exact h2
        refine (h3.keep (fun p hp => World.cell?_alloc_lt _ _ _ hp.2)).more fun b hb => ⟨by have := hb.1; omega, by have := hb.2; simp; omega, fun e => by have := HYB.out _ e; have := hb.1; omega⟩)
       have hwr6 := HST5.out.bel.size
       have hlo5 := HST5.out.low
       go_wp2_with (at_builtin; refine wpList_append_form _ rfl _ _ 49 49 rfl W4.heap.size 55 55 i0 (.agg #[.string ⟨#[]⟩, .slice none 0 0]) 2 40 Tryz.underlying49 Tryz.underlying49 hi hz0 hz1 hz2 rfl (by decide) (.slice ya p yc) p _ rfl HL6.out (some ⟨_, 0, none⟩) 1 1 [.string xn, .slice za r zc] rfl rfl (fun _ => ⟨_, rfl, World.news_of_block HN6.out⟩) (by intro u hu; simp at hu; rcases hu with rfl | rfl <;> rfl) (by omega) (by unfold maxLen; omega) (by omega) (by simp; omega) ?_; intro p8 cap8 w8 hown8 hg8 hat8 hlt8; have hbx8 := HST6.out.box.grown hg8 (fun e => by have := HL6.out.lt _ e.symm; omega); have q1 : w8.cell? ⟨W3.heap.size, 2, none⟩ = some (.slice ya p yc) := hbx8.cell 2 rfl; have fq1 := hbx8.frozen 2; have HG8 := hid hg8; have HOWN8 := hid hown8; have HAT8 := hid hat8; clear hown8 hg8 hat8 hbx8)
       clear q1 fq1 s0 s6 x0 x1
       go_wp2
       go_roundg (gk - 1)
       case rel => exact ⟨p + 1, _, by go_num, by omega, hid (by rw [HSNq.out]; unfold selL; rw [List.map_append, List.map_singleton]; exact HST6.out.push (x := ⟨xn, pickL xc rs⟩) (by rw [HPL.out]) (by rw [HPL.out]; exact HL6.out) HOWN8.out HG8.out HAT8.out HNEW.out (by omega) (by omega))⟩
       case measure => omega
    ·obtain rfl : gk = 0 := by omega
     obtain rfl : p = L := by omega
     have hy2 := (show BoxN wo (w.heap.size + 1) _ _ from (HST.out.keep (w.heap.size + 1) (by omega) (by omega)).trans HY4.out)
     obtain ⟨L0, hL0⟩ := HST.out.own.owns
     rw [HPL.out] at hL0
     obtain ⟨ya, yc, rfl⟩ := own_slice hL0
     have c0 := hy2.cell 0 rfl
     have c1 := hy2.cell 1 rfl
     have c2 := hy2.cell 2 rfl
     have f0 := hy2.frozen 0
     have f1 := hy2.frozen 1
     have f2 := hy2.frozen 2
     have e0 : wo.cell? ⟨W3.heap.size, 0, none⟩ = some (.int .i64 id) := HST.out.box.cell 0 rfl
     have e1 : wo.cell? ⟨W3.heap.size, 1, none⟩ = some (.string nm) := HST.out.box.cell 1 rfl
     have e2 : wo.cell? ⟨W3.heap.size, 2, none⟩ = some (.slice ya p yc) := HST.out.box.cell 2 rfl
     have HTX : Hid (xs.take p = xs) := hid (List.take_of_length_le (by have := HXL.out; omega))
     clear hy2 hL0
     go_wp2
     refine bodyPost_ret (v := .tuple #[.agg #[.int .i64 id, .string nm, .slice ya p yc], .int .i64 0]) (by simp [results, Tryz.results111, go_sem, c0, c1, c2]) rfl ⟨_, rfl, ?_, by have := HST.out.bel; repeat' (first | (with_reducible exact Below.refl _ _) | (with_reducible assumption) | (with_reducible refine below_drewN ?_) | (with_reducible refine Below.alloc ?_ ?_ _) | (with_reducible refine Below.drew ?_) | (with_reducible refine Below.setCell ?_ ?_ _) | (with_reducible refine Below.trans ?_ (Below.mono (by with_reducible assumption) ?_)) | go_size)⟩
     have hown := HST.out.own
     rw [HTX.out] at hown
     exact ((((hown.setCell (p := ⟨w.heap.size + 1, 0, none⟩) (by show w.heap.size + 1 < W4.heap.size; omega) _).setCell (p := ⟨w.heap.size + 1, 1, none⟩) (by show w.heap.size + 1 < W4.heap.size; omega) _).setCell (p := ⟨w.heap.size + 1, 2, none⟩) (by show w.heap.size + 1 < W4.heap.size; omega) _).read).more fun b hb => .inr ⟨by have := hb.1; omega, hb.2⟩
end Go.Proofs.YtaajpliifdlokaaGreatDoor

namespace Go.Proofs.YtaajpliifdlokaaGreatDoor.Fr
def val : List Nat → Nat
  | [] => 0
  | x :: xs => x + 4294967296 * val xs
def dig (n : Nat) : List Nat := if n = 0 then [] else n % 4294967296 :: dig (n / 4294967296)
termination_by n
decreasing_by omega
def Digs (xs : List Nat) : Prop := ∀ i, xs.getD i 0 < 4294967296
def Lead (xs : List Nat) : Prop := 0 < xs.length → xs.getD (xs.length - 1) 0 ≠ 0
theorem Digs.nil : Digs [] := by intro i; simp
theorem Digs.cons {x : Nat} {xs : List Nat} (h : x < 4294967296) (hs : Digs xs) : Digs (x :: xs) := by
  intro i; cases i with
  | zero => simpa using h
  | succ i => simpa using hs i
theorem Digs.head {x : Nat} {xs : List Nat} (h : Digs (x :: xs)) : x < 4294967296 := by simpa using h 0
theorem Digs.take {xs : List Nat} (h : Digs xs) (k : Nat) : Digs (xs.take k) := by
  intro i
  by_cases hi : i < k
  · have : (xs.take k).getD i 0 = xs.getD i 0 := by simp [List.getD, List.getElem?_take, hi]
    rw [this]; exact h i
  · have : (xs.take k).getD i 0 = 0 := by simp [List.getD, List.getElem?_take, hi]
    rw [this]; omega
theorem Digs.append {xs ys : List Nat} (h : Digs xs) (k : Digs ys) : Digs (xs ++ ys) := by
  intro i
  by_cases hi : i < xs.length
  · have : (xs ++ ys).getD i 0 = xs.getD i 0 := by simp [List.getD, List.getElem?_append, hi]
    rw [this]; exact h i
  · have : (xs ++ ys).getD i 0 = ys.getD (i - xs.length) 0 := by simp [List.getD, List.getElem?_append, hi]
    rw [this]; exact k _
theorem Digs.set {xs : List Nat} (h : Digs xs) (k x : Nat) (hx : x < 4294967296) : Digs (xs.set k x) := by
  intro i
  simp only [List.getD, List.getElem?_set]
  split
  · split
    · simpa using hx
    · simp
  · exact h i
def vt (xs : List Nat) (k : Nat) : Nat := val (xs.take k)
theorem getD_set_other {zs : List Nat} {p q d : Nat} (h : p ≠ q) : (zs.set p d).getD q 0 = zs.getD q 0 := by simp [List.getD, List.getElem?_set, h]
def halfF : List Nat → List Nat
  | [] => []
  | x :: t => (x / 2 + t.getD 0 0 % 2 * 2147483648) :: halfF t
theorem getD_set_self {zs : List Nat} {p d : Nat} (h : p < zs.length) : (zs.set p d).getD p 0 = d := by simp [List.getD, h]
def trimK (xs : List Nat) : Nat → Nat
  | 0 => 0
  | k + 1 => if xs.getD k 0 = 0 then trimK xs k else k + 1
def sgn (a b : Nat) : Int := if a < b then -1 else if b < a then 1 else 0
def cmpTop (xs ys : List Nat) : Nat → Int
  | 0 => 0
  | k + 1 => if xs.getD k 0 < ys.getD k 0 then -1 else if ys.getD k 0 < xs.getD k 0 then 1 else cmpTop xs ys k
def cmpL (xs ys : List Nat) : Int := if xs.length = ys.length then cmpTop xs ys xs.length else if xs.length < ys.length then -1 else 1
end Go.Proofs.YtaajpliifdlokaaGreatDoor.Fr

namespace Go.Proofs.YtaajpliifdlokaaGreatDoor.Fr
open Go.RowKit
theorem hid {p : Prop} (h : p) : Hid p := h
def Rd32 (w : World) (v : Value) (xs : List Nat) : Prop :=
  ∃ a c, v = .slice a xs.length c ∧ xs.length ≤ c ∧ c ≤ maxLen ∧ Digs xs ∧
    (0 < xs.length → ∃ b o, a = some ⟨b, o, none⟩ ∧ b < w.heap.size ∧ ∀ i, i < xs.length → w.cell? ⟨b, o + i, none⟩ = some (.int .u32 ((xs.getD i 0 : Nat) : Int)))
theorem Rd32.kept {w w' : World} {v : Value} {xs : List Nat} (h : Rd32 w v xs) (hb : Below w.heap.size w w') : Rd32 w' v xs := by
  obtain ⟨a, c, e, h1, h2, h3, h4⟩ := h
  refine ⟨a, c, e, h1, h2, h3, fun hp => ?_⟩
  obtain ⟨b, o, e1, h5, h6⟩ := h4 hp
  exact ⟨b, o, e1, Nat.lt_of_lt_of_le h5 hb.size, fun i hi => (hb.cell (p := ⟨b, o + i, none⟩) h5).trans (h6 i hi)⟩
theorem Rd32.nil (w : World) : Rd32 w (.slice none 0 0) [] := ⟨none, 0, rfl, Nat.le_refl _, by simp [maxLen], Digs.nil, fun h => by simp at h⟩
def Off (R : Nat) (v : Value) : Prop := ∀ a n c, v = .slice (some a) n c → 0 < n → a.block ≠ R
theorem Rd32.off {w : World} {v : Value} {xs : List Nat} (h : Rd32 w v xs) {R : Nat} (hR : w.heap.size ≤ R) : Off R v := by
  obtain ⟨a, c, rfl, h1, h2, h3, h4⟩ := h
  intro a' n' c' e hn
  obtain ⟨rfl, rfl, rfl⟩ := Value.slice.inj e
  obtain ⟨b, o, e1, h5, h6⟩ := h4 hn
  cases e1
  intro e2
  simp only at e2
  omega
theorem Off.of_lt {R : Nat} {b o n c : Nat} (h : R < b) : Off R (.slice (some ⟨b, o, none⟩) n c) := by
  intro a n' c' e _
  obtain ⟨e1, _⟩ := Value.slice.inj e
  cases e1
  simp only; omega
theorem Off.nil {R n c : Nat} : Off R (.slice none n c) := by
  intro a n' c' e _
  obtain ⟨e1, _⟩ := Value.slice.inj e
  cases e1
theorem Rd32.setCell {w : World} {v : Value} {xs : List Nat} (h : Rd32 w v xs) {p : Addr} {u : Value} (ho : Off p.block v) : Rd32 (w.setCell p u) v xs := by
  obtain ⟨a, c, rfl, h1, h2, h3, h4⟩ := h
  refine ⟨a, c, rfl, h1, h2, h3, fun hp => ?_⟩
  obtain ⟨b, o, rfl, h5, h6⟩ := h4 hp
  refine ⟨b, o, rfl, by simpa using h5, fun i hi => ?_⟩
  rw [World.cell?_setCell_other, h6 i hi]
  intro e
  have := ho _ _ _ rfl hp
  rw [e] at this
  exact this rfl
theorem Rd32.alloc {w : World} {v : Value} {xs : List Nat} (h : Rd32 w v xs) {o : Obj} : Rd32 (w.alloc o) v xs := h.kept ((Below.refl _ _).alloc (Nat.le_refl _) _)
theorem Rd32.drewN {w : World} {v : Value} {xs : List Nat} (h : Rd32 w v xs) {n : Nat} : Rd32 (w.drewN n) v xs := h
theorem Rd32.drew {w : World} {v : Value} {xs : List Nat} (h : Rd32 w v xs) : Rd32 w.drew v xs := h
def Quiet (w : World) (v : Value) (e : Ending) (w' : World) : Prop := e = .returned v ∧ ∃ k, w' = w.drewN k
theorem Quiet.below {w : World} {v : Value} {e : Ending} {w' : World} (h : Quiet w v e w') : e = .returned v ∧ Below w.heap.size w w' := by
  obtain ⟨he, k, rfl⟩ := h
  exact ⟨he, rfl, rfl, rfl, Nat.le_refl _, fun _ _ => rfl⟩
def Ret (w : World) (v : Value) (e : Ending) (w' : World) : Prop := e = .returned v ∧ Below w.heap.size w w'
theorem Quiet.ret {w : World} {v : Value} {e : Ending} {w' : World} (h : Quiet w v e w') : Ret w v e w' := h.below
abbrev U32 (x : Nat) : Value := .int .u32 (x : Int)
theorem rd_of_owns {w : World} {base : Nat} {e : TypeId} {v : Value} {n : Nat} {xs : List Nat} (h : w.ownsRow base e 1 v n (xs.map U32)) (hd : Digs xs) :
    Rd32 w v xs ∧ (∀ R, R < base → Off R v) ∧ xs.length = n ∧ ∃ a c, v = .slice a n c := by
  obtain ⟨hl, h⟩ := h
  simp only [List.length_map, Nat.mul_one] at hl
  rcases h with ⟨rfl, h0⟩ | ⟨g, cap, cur, rfl, hb, hg, hn, hm, hs, ht⟩
  · have : xs = [] := List.eq_nil_of_length_eq_zero (by omega)
    subst this
    exact ⟨Rd32.nil w, fun R _ => Off.nil, hl, none, 0, by rw [h0]⟩
  · subst hl
    refine ⟨⟨_, _, rfl, hn, hm, hd, fun hp => ⟨g, 0, rfl, (Array.getElem?_eq_some_iff.1 hg).1, fun i hi => ?_⟩⟩, fun R hR => Off.of_lt (by omega), rfl, _, _, rfl⟩
    rw [Nat.zero_add, cell_of_row w g i cur e (0, 0) hg]
    have h1 : (xs.map U32)[i]? = some (U32 (xs.getD i 0)) := by simp [List.getD, hi]
    rw [← ht, List.getElem?_take] at h1
    simp only [Nat.mul_one] at h1
    rw [if_pos hi] at h1
    simpa using h1
theorem push_below {B e size n : Nat} {w wr w' : World} {o : Value} {O : Obj} {xs : List Value} (h : Below B w wr) (hB : B ≤ wr.heap.size) (hown : wr.ownsRow B e size o n xs)
    (hg : (wr.alloc O).grownBy w' o.ownBlock) : Below B w w' :=
  (h.alloc hB O).grown hg (by simp; omega) (fun k hk => (hown.lt k hk).1)
def GivesL (w : World) (n : Nat) (e : Ending) (w' : World) : Prop :=
  ∃ a c zs, e = .returned (.slice a zs.length c) ∧ Rd32 w' (.slice a zs.length c) zs ∧ val zs = n ∧ (∀ R, R < w.heap.size → Off R (.slice a zs.length c)) ∧ Below w.heap.size w w'
def GivesD (w : World) (n : Nat) (e : Ending) (w' : World) : Prop :=
  ∃ a c, e = .returned (.slice a (dig n).length c) ∧ Rd32 w' (.slice a (dig n).length c) (dig n) ∧ (∀ R, R < w.heap.size → Off R (.slice a (dig n).length c)) ∧ Below w.heap.size w w'
def Own32 (w : World) (g N : Nat) (zs : List Nat) : Prop :=
  zs.length = N ∧ Digs zs ∧ g < w.heap.size ∧ ∀ i, i < N → w.cell? ⟨g, i, none⟩ = some (U32 (zs.getD i 0)) ∧ w.frozen? ⟨g, i, none⟩ = false
theorem Own32.set {w : World} {g N j d : Nat} {zs : List Nat} (h : Own32 w g N zs) (hj : j < N) (hd : d < 4294967296) : Own32 (w.setCell ⟨g, j, none⟩ (U32 d)) g N (zs.set j d) := by
  obtain ⟨h1, h2, h3, h4⟩ := h
  refine ⟨by simpa using h1, h2.set j d hd, by simpa using h3, fun i hi => ?_⟩
  by_cases e : j = i
  · subst e
    rw [getD_set_self (by omega)]
    exact ⟨World.cell?_setCell_same _ _ _ (h4 j hi).1, by rw [World.frozen?_setCell]; exact (h4 j hi).2⟩
  · rw [getD_set_other e]
    refine ⟨?_, by rw [World.frozen?_setCell]; exact (h4 i hi).2⟩
    rw [World.cell?_setCell_other _ _ _ _ (by intro h; injection h with _ h2; exact e h2)]
    exact (h4 i hi).1
theorem Own32.drewN {w : World} {g N n : Nat} {zs : List Nat} (h : Own32 w g N zs) : Own32 (w.drewN n) g N zs := h
theorem Own32.drew {w : World} {g N : Nat} {zs : List Nat} (h : Own32 w g N zs) : Own32 w.drew g N zs := h
theorem Own32.alloc {w : World} {g N : Nat} {zs : List Nat} (h : Own32 w g N zs) {o : Obj} : Own32 (w.alloc o) g N zs := by
  obtain ⟨h1, h2, h3, h4⟩ := h
  refine ⟨h1, h2, by simp; omega, fun i hi => ⟨?_, ?_⟩⟩
  · rw [World.cell?_alloc_lt _ _ _ h3]; exact (h4 i hi).1
  · rw [World.frozen?_alloc_old _ _ _ (Nat.ne_of_lt h3)]; exact (h4 i hi).2
theorem Own32.rd {w : World} {g N c : Nat} {zs : List Nat} (h : Own32 w g N zs) (hc : N ≤ c) (hm : c ≤ maxLen) : Rd32 w (.slice (some ⟨g, 0, none⟩) N c) zs := by
  obtain ⟨rfl, h2, h3, h4⟩ := h
  exact ⟨_, _, rfl, hc, hm, h2, fun _ => ⟨g, 0, rfl, h3, fun i hi => by rw [Nat.zero_add]; exact (h4 i hi).1⟩⟩
theorem Rd32.news {w : World} {b o n c : Nat} {xs : List Nat} (h : ∀ i, i < xs.length → w.cell? ⟨b, o + i, none⟩ = some (U32 (xs.getD i 0))) :
    ∀ j u, (xs.map U32)[j]? = some u → w.cell? ((⟨b, o, none⟩ : Addr).add j) = some u := by
  intro j u hu
  have hj : j < xs.length := by
    have := (List.getElem?_eq_some_iff.1 hu).1
    simpa using this
  rw [Addr.add_lit, h j hj]
  have e : (xs.map U32)[j]? = some (U32 (xs.getD j 0)) := by simp [List.getD, hj]
  rw [e] at hu
  exact hu
def slen : Value → Nat | .slice _ n _ => n | _ => 0
theorem ret_int {k : IntKind} {a b : Int} (h : a = b) : Ending.returned (.int k a) = .returned (.int k b) := by rw [h]
theorem ret_bool {a b : Bool} (h : a = b) : Ending.returned (.bool a) = .returned (.bool b) := by rw [h]
theorem below_drewN {B n : Nat} {a w : World} (h : Below B a w) : Below B a (w.drewN n) := ⟨h.os, h.tape, h.output, h.size, h.block⟩
end Go.Proofs.YtaajpliifdlokaaGreatDoor.Fr
