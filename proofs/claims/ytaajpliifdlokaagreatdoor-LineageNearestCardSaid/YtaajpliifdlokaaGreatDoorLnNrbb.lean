/- Contract of explain.finder. -/
import Derived.Test.YtaajpliifdlokaaGreatDoorLnNraz
import Derived.Test.YtaajpliifdlokaaGreatDoorLnNrba
import Derived.Test.YtaajpliifdlokaaGreatDoorLnNrad
set_option linter.unusedVariables false
set_option linter.unusedSimpArgs false
namespace Go.Proofs.YtaajpliifdlokaaGreatDoor
open Go.RowKit
def FoundP (w : World) (r : Option (List Po)) (e : Ending) (w' : World) : Prop :=
  ∃ v, e = .returned (.tuple #[v, .bool r.isSome]) ∧ RdPo w' (· < w'.heap.size) v (r.getD []) ∧ Below w.heap.size w w'
theorem rdPo_len {w : World} {S : Nat → Prop} {v : Value} {os : List Po} (h : RdPo w S v os) : ∃ a c, v = .slice a os.length c := by
  obtain ⟨uv, ⟨a, c, e, -⟩, -⟩ := h
  exact ⟨a, c, e⟩
theorem po_one {w : World} {S : Nat → Prop} {os : List Po} {uv : Nat → Value} (hk : ∀ i, i < os.length → RdKs w S (uv i) (os.getD i Po.z).cols) : ∀ i, i < os.length → ∀ j, j < 4 → (poF os uv i j).oneCell' = true := by
  intro i hi j hj
  obtain ⟨a, c, e, -⟩ := hk i hi
  rcases (show j = 0 ∨ j = 1 ∨ j = 2 ∨ j = 3 by omega) with rfl | rfl | rfl | rfl
  · rfl
  · rfl
  · rfl
  · show (uv i).oneCell' = true
    rw [e]
    rfl
theorem ps_at {w : World} {S : Nat → Prop} {v : Value} {fs : List (List Po)} (h : RdPs w S v fs) {q : Nat} (hq : q < fs.length) : ∃ b o c u, v = .slice (some ⟨b, o, none⟩) fs.length c ∧ S b ∧ fs.length ≤ c ∧ c ≤ maxLen ∧ w.cell? ⟨b, o + q, none⟩ = some u ∧ RdPo w S u (fs.getD q []) := by
  obtain ⟨vv, ⟨a, c, rfl, h1, h2, h3⟩, hk⟩ := h
  obtain ⟨b, o, rfl, hb, hc⟩ := h3 (by omega)
  have := hc q hq 0 (by omega)
  simp only [Nat.mul_one, Nat.add_zero] at this
  exact ⟨b, o, c, vv q, rfl, hb, h1, h2, this, hk q hq⟩
set_option maxRecDepth 100000 in
set_option maxHeartbeats 8000000 in
theorem expl_finder (ida idb : Int) (na nb : ByteArray) (u v pv : Value) (xs ys : List Co) (p : List Po) (most B : Nat) (w : World) (hx : Few xs) (hla : xs.length ≤ 64) (hlb : ys.length ≤ 64) (hu : RdCo w (· < B) u xs) (hv : RdCo w (· < B) v ys) (hpv : RdPo w (· < B) pv p) (hB : B ≤ w.heap.size) (hp : projOf xs ys = some p) (hm : most ≤ 4) :
  Calls Tryz.prog 103 #[.agg #[.int .i64 ida, .string na, u], .agg #[.int .i64 idb, .string nb, v], pv, .int .i64 (most : Int)] w (FoundP w (finderL xs ys p most)) := by
 obtain ⟨j0, hj0, hy0, hy1, hy2⟩ := info_parts info_op
 obtain ⟨n, hn19, hcv⟩ := id hx
 have HFIL := hid (fun W (hW : Below w.heap.size w W) => expl_filters ida na u xs B n W (hu.keep fun p (hp : p.block < B) => hW.cell (p := p) (by omega)) (Nat.le_trans hB hW.size) hla (fun x hxx => (hcv x hxx).2.1) (by omega) (fun x hxx c hc => by have := ((hcv x hxx).2.2 c hc).2.1; omega))
 have HDO := hid (fun (cs : List Co) (o : Po) y uu W (hy : RdCo W (· < W.heap.size) y cs) (hu : RdKs W (· < W.heap.size) uu o.cols) (h1 : Few cs) (h2 : cs.length ≤ 64) (h3 : canL cs.length o = true) => expl_does o ida na y uu cs W.heap.size W hy hu.op (Nat.le_refl _) h1 h2 h3)
 have HRW := hid (fun (id : Int) (nm : ByteArray) y (cs : List Co) W (hy : RdCo W (· < W.heap.size) y cs) => table_Rows id nm y cs W.heap.size W hy (Nat.le_refl _))
 have HAL := hid (fun y (cs : List Co) W (hW : Below w.heap.size w W) (hy : RdCo W (· < W.heap.size) y cs) => expl_Alike ida idb na nb y v cs ys W.heap.size W hy ((hv.keep fun p (hp : p.block < B) => hW.cell (p := p) (by omega)).more fun b (hb : b < B) => by show b < W.heap.size; have := hW.size; omega) (Nat.le_refl _))
 have HVB := hid (fun W (hW : Below w.heap.size w W) => (hv.keep (w' := W) fun p (hp : p.block < B) => hW.cell (p := p) (by omega)).more (S' := (· < W.heap.size)) fun b (hb : b < B) => by show b < W.heap.size; have := hW.size; omega)
 have HUB := hid (fun W (hW : Below w.heap.size w W) => (hu.keep (w' := W) fun p (hp : p.block < B) => hW.cell (p := p) (by omega)).more (S' := (· < w.heap.size)) fun b (hb : b < B) => by show b < w.heap.size; omega)
 have HPB := hid (fun W (hW : Below w.heap.size w W) => (hpv.keep (w' := W) fun p (hp : p.block < B) => hW.cell (p := p) (by omega)).more (S' := (· < w.heap.size)) fun b (hb : b < B) => by show b < w.heap.size; omega)
 have HBEG := hid (fun f (hf : f ∈ filtersL xs) => can_begin hcv hlb hf hp)
 have HRUN := hid (fun os (hc : canRun xs os = true) => run_ok os xs hx hla hc)
 have hps := proj_short hp
 have HFE := hid (fun f => finderF_eq xs ys p most f)
 have HFN : Hid ((∀ j, j < (filtersL xs).length → finderF xs ys p most ((filtersL xs).getD j []) = none) → finderL xs ys p most = none) := hid (fun h => findSome_nil [] (finderF xs ys p most) (filtersL xs) h)
 have HFS : Hid (∀ q r, q < (filtersL xs).length → (∀ j, j < q → finderF xs ys p most ((filtersL xs).getD j []) = none) → finderF xs ys p most ((filtersL xs).getD q []) = some r → finderL xs ys p most = some r) := hid (fun q r hq h h2 => findSome_at [] (finderF xs ys p most) (filtersL xs) q r hq h h2)
 have HEND := hid (fun e (he : e ∈ endsL ys.length) => ends_short he)
 have HMEM := hid (fun q (hq : q < (filtersL xs).length) => (getD_mem hq [] : (filtersL xs).getD q [] ∈ filtersL xs))
 have HMEE := hid (fun q (hq : q < (endsL ys.length).length) => (getD_mem hq [] : (endsL ys.length).getD q [] ∈ endsL ys.length))
 obtain ⟨ua, uc, rfl⟩ := rdCo_len hu
 obtain ⟨va, vc, rfl⟩ := rdCo_len hv
 obtain ⟨pa, pc, rfl⟩ := rdPo_len hpv
 clear hu hv hpv hcv hx hp
 generalize hxl : xs.length = La at *
 clear hxl
 generalize hyl : ys.length = Lb at *
 have HYL := hid hyl
 clear hyl
 generalize hpl : p.length = pl at *
 have HPL := hid hpl
 clear hpl
 have hx0 := (BoxN.new w #[.int .i64 ida, .string na, .slice ua La uc] 51).alloc (.cells #[.int .i64 idb, .string nb, .slice va Lb vc] 51)
 have hy0' := BoxN.new (w.alloc (.cells #[.int .i64 ida, .string na, .slice ua La uc] 51)) #[.int .i64 idb, .string nb, .slice va Lb vc] 51
 rw [World.size_alloc] at hy0'
 have HX0 := hid hx0
 have HY0 := hid hy0'
 have HB0 := hid (((Below.refl w.heap.size w).alloc (Nat.le_refl _) (.cells #[.int .i64 ida, .string na, .slice ua La uc] 51)).alloc (by simp) (.cells #[.int .i64 idb, .string nb, .slice va Lb vc] 51))
 have hz0' : ((w.alloc (.cells #[.int .i64 ida, .string na, .slice ua La uc] 51)).alloc (.cells #[.int .i64 idb, .string nb, .slice va Lb vc] 51)).heap.size = w.heap.size + 2 := by simp
 have y2 := hy0'.cell 2 rfl
 clear hx0 hy0'
 go_enter Tryz.func103, Tryz.ntmps103
 generalize hLA : Code.loop _ = LA
 go_wp2_with fail
 generalize (w.alloc (.cells #[.int .i64 ida, .string na, .slice ua La uc] 51)).alloc (.cells #[.int .i64 idb, .string nb, .slice va Lb vc] 51) = W0 at *
 have hz0a := Nat.le_of_eq hz0'
 have hz0b := Nat.le_of_eq hz0'.symm
 clear hz0' y2
 with_reducible refine (expl_ends Lb W0 hlb (by omega)).mono ?_
 rintro e w1 ⟨ea, ec, rfl, hen1, hb1⟩
 have hz1 := hb1.size
 have HB1 := hid (HB0.out.trans (hb1.mono (by omega)))
 have HX1 := hid (HX0.out.below hb1 HX0.out.lt)
 have HY1 := hid (HY0.out.below hb1 HY0.out.lt)
 have HEN1 := hid hen1
 clear hen1 hb1
 have x0 := HX1.out.cell 0 rfl
 have x1 := HX1.out.cell 1 rfl
 have x2 := HX1.out.cell 2 rfl
 go_wp2_with fail
 with_reducible refine (HFIL.out w1 HB1.out).mono ?_
 rintro e w2 ⟨fa, fc, rfl, hfi2, hb2⟩
 have hz2 := hb2.size
 have HB2 := hid (HB1.out.trans (hb2.mono (by omega)))
 have HX2 := hid (HX1.out.below hb2 HX1.out.lt)
 have HY2 := hid (HY1.out.below hb2 HY1.out.lt)
 have HEN2 : Hid (RdPs w2 (· < w2.heap.size) (.slice ea (endsL Lb).length ec) (endsL Lb)) := hid ((HEN1.out.keep (w' := w2) fun p hp => hb2.cell (p := p) hp.2).more fun b hb => by show b < w2.heap.size; have := hb.2; omega)
 have HFI2 : Hid (RdPs w2 (· < w2.heap.size) (.slice fa (filtersL xs).length fc) (filtersL xs)) := hid (hfi2.more fun b hb => hb.2)
 clear hfi2 hb2 x0 x1 x2 HFIL HEN1
 generalize hnf : (filtersL xs).length = nf at *
 generalize hne : (endsL Lb).length = ne at *
 have HNF := hid hnf
 clear hnf
 have HNE := hid hne
 have hnem : ne ≤ 200 := by
  rw [← hne]
  have : (endsL Lb).length = (Lb + 1) + (Lb + 1) := by
   unfold endsL
   rw [List.length_append, List.length_map, show (sortsL Lb).length = Lb + 1 from sortsTo_len Lb]
  omega
 clear hne
 generalize hFL : finderL xs ys p most = FL at *
 clear hFL
 go_wp2_with fail
 subst hLA
 go_loopg [29] nf (fun N i wr => ∃ (q : Nat), i = .int .i64 (q : Int) ∧ q + N = nf ∧ w2.heap.size ≤ wr.heap.size ∧ Hid (Below w2.heap.size w2 wr) ∧ Hid (∀ j, j < q → finderF xs ys p most ((filtersL xs).getD j []) = none))
 case atStart => exact ⟨0, rfl, by omega, Nat.le_refl _, hid (Below.refl _ _), hid (fun j h => absurd h (by omega))⟩
 case round =>
  obtain ⟨q, rfl, hq, hlw, HBL, HALL⟩ := hrel
  obtain ⟨wo, rfl⟩ : ∃ wo, wo = wr := ⟨wr, rfl⟩
  have HBW := hid (HB2.out.trans (HBL.out.mono (by omega)))
  by_cases hp : 0 < gk
  ·have hqn : q < nf := by omega
   obtain ⟨fb, fo, fc2, fv, hfe, hfb, hf1, hf2, hfc, hpo⟩ := ps_at (HFI2.out.keep (w' := wo) fun p (hp : p.block < w2.heap.size) => HBL.out.cell (p := p) hp) (q := q) (by rw [HNF.out]; exact hqn)
   obtain ⟨rfl, -, rfl⟩ := Value.slice.inj hfe
   have hnfm : nf ≤ 9223372036854775807 := by
    rw [← HNF.out]
    unfold maxLen at hf2
    omega
   obtain ⟨ga, gc, rfl⟩ := rdPo_len hpo
   have hmem := HMEM.out q hqn
   have hfsh := filt_short hmem
   have HFC0 := filt_cols hmem
   have HCB := hid (HBEG.out _ hmem)
   have HFEq := hid (HFE.out ((filtersL xs).getD q []))
   have HA1 : Hid (finderF xs ys p most ((filtersL xs).getD q []) = none → ∀ j, j < q + 1 → finderF xs ys p most ((filtersL xs).getD j []) = none) := hid (fun h j hj => by
    rcases Nat.lt_or_ge j q with h1 | h1
    ·exact HALL.out j h1
    ·obtain rfl : j = q := by omega
     exact h)
   generalize hgf : (filtersL xs).getD q [] = f at hpo hfc hfsh HCB HFEq HA1 HFC0
   have HFC := hid HFC0
   clear HFC0
   have HGF := hid hgf
   generalize hgl : f.length = gl at *
   have HGL := hid hgl
   have hfc' := hfc
   clear hfe hgf hgl hmem
   by_cases hbig : most < gl + pl
   ·have HNONE : Hid (finderF xs ys p most f = none) := hid (by rw [HFEq.out, if_pos hbig])
    go_wp2
    go_roundg (gk - 1)
    case rel => exact ⟨q + 1, by go_num, by omega, by omega, HBL, hid (HA1.out HNONE.out)⟩
    case measure => omega
   ·obtain ⟨uv, hink, hkk⟩ := hpo
    rw [HGL.out] at hink
    have HCLN := hid (clone_ops (· < w2.heap.size) (.slice ga gl gc) gl (poF f uv) wo hink (fun b (hb : b < w2.heap.size) => by omega) (by have := po_one hkk; rw [HGL.out] at this; exact this) (by omega))
    have HKF := hid hkk
    clear hink hkk hfc'
    go_wp2_with fail
    with_reducible refine HCLN.out.mono ?_
    rintro e w3 ⟨a3, c3, rfl, hown3, hb3⟩
    have hz3 := hb3.size
    have HB3 := hid (HBW.out.trans (hb3.mono (by omega)))
    have HB3o := hid hb3
    have HOWN3 := hid hown3
    obtain ⟨up, ⟨_, _, e1, -, hp2, hpr⟩, hpk⟩ := HPB.out w3 HB3.out
    obtain ⟨rfl, -, rfl⟩ := Value.slice.inj e1
    have HPK := hid hpk
    have HCE : Hid (0 < pl → ∃ ad, pa = some ad ∧ ∀ j u, (flatK 4 p.length (poF p up))[j]? = some u → w3.cell? (ad.add j) = some u) := hid (fun h0 => by
     obtain ⟨b, o, e2, hb, hc⟩ := hpr (by rw [HPL.out]; exact h0)
     exact ⟨_, e2, flat_cells (w := w3) (w' := w3) (by omega) hc (fun p hp => rfl)⟩)
    have HON := hid (flat_one (k := 4) (by omega) (po_one hpk))
    have HFK : Hid ((flatK 4 p.length (poF p up)).length = pl * 4) := hid (by rw [flatK_len, HPL.out])
    obtain ⟨news, hnw⟩ : ∃ news, news = flatK 4 p.length (poF p up) := ⟨_, rfl⟩
    rw [← hnw] at HCE HON HFK
    have HNW := hid hnw
    obtain ⟨bl, hbl⟩ : ∃ bl, gl + pl = bl := ⟨_, rfl⟩
    have HBLN := hid hbl
    have hbl2 := Nat.le_of_eq hbl
    have hbl3 := Nat.le_of_eq hbl.symm
    clear e1 hpr hpk hnw hbl hown3 hb3 HCLN
    unfold maxLen at hp2
    have HX3 := hid (HX2.out.below (HBL.out.trans (HB3o.out.mono (by omega))) HX2.out.lt)
    have x0 := HX3.out.cell 0 rfl
    go_wp2_with (at_builtin; refine wpList_append_any rfl _ _ 74 74 rfl wo.heap.size 122 122 j0 (.agg #[.int .i64 0, .int .i64 0, .string ⟨#[]⟩, .slice none 0 0]) 4 56 Tryz.underlying74 Tryz.underlying74 hj0 hy0 hy1 hy2 rfl (by decide) a3 gl c3 _ rfl HOWN3.out pa pl pc news rfl HFK.out HCE.out HON.out (by unfold maxLen; omega) (by omega) (by omega) bl HBLN.out ?_; intro a4 c4 w4 hown4 hg4; have HOWN4 := hid hown4; have HG4 := hid hg4; (have hx4 := HX3.out.grown hg4 (fun e => by have := (HOWN3.out.lt _ e.symm).1; omega)); have xx0 := hx4.cell 0 rfl; have xx1 := hx4.cell 1 rfl; have xx2 := hx4.cell 2 rfl; clear hown4 hg4 hx4)
    have hgs4 := HG4.out.size
    have HB4w0 := hid (HB3o.out.grown HG4.out (by omega) (fun k hk => (HOWN3.out.lt k hk).1))
    have HB4w : Hid (Below wo.heap.size wo w4) := HB4w0
    have HBL4 := hid (HBL.out.trans (HB4w.out.mono (by omega)))
    have HBW4 := hid (HBW.out.trans (HB4w.out.mono (by omega)))
    have HKF4 : Hid (∀ i, i < f.length → RdKs w4 (· < w.heap.size) (uv i) (f.getD i Po.z).cols) := hid (fun i hi => ks_empty (HFC.out _ (getD_mem hi Po.z)) (HKF.out i hi))
    have HPK4 : Hid (∀ i, i < p.length → RdKs w4 (· < w.heap.size) (up i) (p.getD i Po.z).cols) := hid (fun i hi => (HPK.out i hi).keep (w' := w4) fun p (hp : p.block < w.heap.size) => World.cell?_of_block (HG4.out.block p.block (by omega) (fun e => by have := (HOWN3.out.lt _ e.symm).1; omega)))
    have hown4 := HOWN4.out
    rw [HNW.out, ← HBLN.out] at hown4
    have hown4' : w4.ownsRow wo.heap.size 122 4 (.slice a4 (gl + pl) c4) (f.length + p.length) (flatK 4 f.length (poF f uv) ++ flatK 4 p.length (poF p up)) := by
     rw [HPL.out] at hown4
     rw [HGL.out, HPL.out]
     exact hown4
    obtain ⟨hbg, uw, huw, hkw⟩ := po_append (S := (· < w4.heap.size)) hown4' (fun b hb => (hown4.lt b hb).2) (fun b (hb : b < w.heap.size) => by show b < w4.heap.size; omega) HKF4.out HPK4.out
    have hlen : (f ++ p).length = bl := by rw [List.length_append, HGL.out, HPL.out]; exact HBLN.out
    have HBGL := hid hlen
    have HROW4 : Hid (w4.ownsRow wo.heap.size 122 4 (.slice a4 bl c4) bl (flatK 4 bl (poF (f ++ p) uw))) := hid (by
     rw [huw, hlen] at hown4'
     rw [HGL.out, HPL.out, HBLN.out] at hown4'
     exact hown4')
    have HKW : Hid (∀ i, i < bl → RdKs w4 (· < w.heap.size) (uw i) ((f ++ p).getD i Po.z).cols) := hid (fun i hi => hkw i (by rw [hlen]; exact hi))
    rw [HBLN.out] at hbg
    have HBG := hid hbg
    have HRUF := hid (HRUN.out (f ++ p) HCB.out.1)
    have HLA := hid (fun j (hj : j < bl) W (hW : Below w4.heap.size w4 W) => rdPo_at (HBG.out.keep (w' := W) fun p (hp : p.block < w4.heap.size) => hW.cell (p := p) hp) (q := j) (by rw [HBGL.out]; exact hj))
    have HL0 := hid ((Below.refl w4.heap.size w4).alloc (Nat.le_refl _) (.cells #[.int .i64 ida, .string na, .slice ua La uc] 51))
    have HLT := hid (BoxN.new w4 #[.int .i64 ida, .string na, .slice ua La uc] 51)
    have hz5 : (w4.alloc (.cells #[.int .i64 ida, .string na, .slice ua La uc] 51)).heap.size = w4.heap.size + 1 := by simp
    have HLR : Hid (RdCo (w4.alloc (.cells #[.int .i64 ida, .string na, .slice ua La uc] 51)) (fun b => b < (w4.alloc (.cells #[.int .i64 ida, .string na, .slice ua La uc] 51)).heap.size ∧ b ≠ w4.heap.size) (.slice ua La uc) (runL xs ((f ++ p).take 0))) := hid ((HUB.out _ (HBW4.out.alloc (by omega) _)).more fun b (hb : b < w.heap.size) => ⟨by simp; omega, by omega⟩)
    clear hown4 hown4' hbg huw hkw hlen xx0 xx1 xx2 x0 HOWN3 HG4 HOWN4 HKF4 HPK4 HCE HON HFK HNW
    generalize w4.alloc (.cells #[.int .i64 ida, .string na, .slice ua La uc] 51) = W5 at *
    have hz5a := Nat.le_of_eq hz5
    have hz5b := Nat.le_of_eq hz5.symm
    clear hz5
    go_loopg [47] bl (fun N i wr => ∃ (j : Nat) (y : Value), i = .int .i64 (j : Int) ∧ j + N = bl ∧ w4.heap.size < wr.heap.size ∧ Hid (Below w4.heap.size w4 wr) ∧ Hid (BoxN wr w4.heap.size 51 #[.int .i64 ida, .string na, y]) ∧ Hid (RdCo wr (fun b => b < wr.heap.size ∧ b ≠ w4.heap.size) y (runL xs ((f ++ p).take j))))
    case atStart => exact ⟨0, _, rfl, by omega, by omega, HL0, HLT, HLR⟩
    case round =>
     obtain ⟨j, y, rfl, hj, hlw, HB, HQ, HRD⟩ := hrel
     obtain ⟨ya, yc, rfl⟩ := rdCo_len HRD.out
     by_cases hp : 0 < gk
     ·have hjm : j < bl := by omega
      obtain ⟨b, o, c, uv, hl, hb, hks, -, -, k0, k1, k2, k3⟩ := HLA.out j hjm wr HB.out
      obtain ⟨rfl, -, rfl⟩ := Value.slice.inj hl
      have hbB : b < w4.heap.size := hb
      obtain ⟨oa, oc, rfl⟩ : ∃ a c, uv = .slice a ((f ++ p).getD j Po.z).cols.length c := by
       obtain ⟨a, c, e, -⟩ := hks
       exact ⟨a, c, e⟩
      have HKS := hid hks
      obtain ⟨hr1, hr2, hr3⟩ := HRUF.out j
      have HDQ := hid (fun y u W hy hu => HDO.out (runL xs ((f ++ p).take j)) ((f ++ p).getD j Po.z) y u W hy hu hr1 hr2 (hr3 (by rw [HBGL.out]; exact hjm)))
      have HSNq := hid (run_snoc xs (os := (f ++ p)) (q := j) (by rw [HBGL.out]; exact hjm))
      clear hl hks hr1 hr2 hr3
      generalize runL xs ((f ++ p).take j) = ys2 at *
      generalize (f ++ p).getD j Po.z = P at *
      obtain ⟨kind, col, text, cols⟩ := P
      simp only [Po.val] at HDQ
      simp only at k0 k1 k2 k3 HKS
      generalize cols.length = kl at *
      have HO4 := hid (BoxN.new wr #[.int .i64 kind, .int .i64 col, .string text, .slice oa kl oc] 122)
      have HQ4 := hid (HQ.out.alloc (.cells #[.int .i64 kind, .int .i64 col, .string text, .slice oa kl oc] 122))
      have HB4 := hid (HB.out.alloc (by omega) (.cells #[.int .i64 kind, .int .i64 col, .string text, .slice oa kl oc] 122))
      have hz4 : (wr.alloc (.cells #[.int .i64 kind, .int .i64 col, .string text, .slice oa kl oc] 122)).heap.size = wr.heap.size + 1 := by simp
      have HRD4 : Hid (RdCo (wr.alloc (.cells #[.int .i64 kind, .int .i64 col, .string text, .slice oa kl oc] 122)) (· < wr.heap.size) (.slice ya ys2.length yc) ys2) := hid ((HRD.out.keep (fun p hp => World.cell?_alloc_lt _ _ _ hp.1)).more fun b hb => hb.1)
      have HKS4 : Hid (RdKs (wr.alloc (.cells #[.int .i64 kind, .int .i64 col, .string text, .slice oa kl oc] 122)) (· < wr.heap.size) (.slice oa kl oc) cols) := hid ((HKS.out.keep (fun p (hp : p.block < w4.heap.size) => World.cell?_alloc_lt _ _ _ (by omega))).more fun b (hb : b < w4.heap.size) => by show b < wr.heap.size; omega)
      have q0 := HQ4.out.cell 0 rfl
      have q1 := HQ4.out.cell 1 rfl
      have q2 := HQ4.out.cell 2 rfl
      have o0 := HO4.out.cell 0 rfl
      have o1 := HO4.out.cell 1 rfl
      have o2 := HO4.out.cell 2 rfl
      have o3 := HO4.out.cell 3 rfl
      go_wp2_with fail
      generalize wr.alloc (.cells #[.int .i64 kind, .int .i64 col, .string text, .slice oa kl oc] 122) = W4 at *
      have hz4a := Nat.le_of_eq hz4
      have hz4b := Nat.le_of_eq hz4.symm
      clear hz4 k0 k1 k2 k3
      with_reducible refine (HDQ.out (.slice ya ys2.length yc) (.slice oa kl oc) W4 (HRD4.out.more fun b (hb : b < wr.heap.size) => by show b < W4.heap.size; omega) (HKS4.out.more fun b (hb : b < wr.heap.size) => by show b < W4.heap.size; omega)).mono ?_
      rintro e w6 ⟨z, rfl, hco6, hb6⟩
      have hz6 := hb6.size
      have HB6 := hid (HB4.out.trans (hb6.mono (by omega)))
      have HQ6 := hid (HQ4.out.below hb6 HQ4.out.lt)
      have hrd6 := hco6.read
      have HRD6 := hid hrd6
      obtain ⟨za, zc, rfl⟩ := rdCo_len hrd6
      clear q0 q1 q2 o0 o1 o2 o3 hb6 HDQ hco6 hrd6
      have q0 := HQ6.out.cell 0 rfl
      have q1 := HQ6.out.cell 1 rfl
      have q2 := HQ6.out.cell 2 rfl
      have f0 := HQ6.out.frozen 0
      have f1 := HQ6.out.frozen 1
      have f2 := HQ6.out.frozen 2
      go_wp2_with fail
      go_roundg (gk - 1)
      case rel =>
       refine ⟨j + 1, _, by go_num, by omega, by simp; omega, hid (((HB6.out.setCell (Nat.le_refl _) _).setCell (Nat.le_refl _) _).setCell (Nat.le_refl _) _), hid (((HQ6.out.set 0 _).set 1 _).set 2 _), hid ?_⟩
       rw [HSNq.out]
       refine (HRD6.out.keep fun p hp => ?_).more fun b hb => ⟨by have := hb.2; simpa using this, by have := hb.1; omega⟩
       have hp1 := hp.1
       rw [World.cell?_setCell_other _ _ _ _ (by intro e; subst e; simp at hp1; omega), World.cell?_setCell_other _ _ _ _ (by intro e; subst e; simp at hp1; omega), World.cell?_setCell_other _ _ _ _ (by intro e; subst e; simp at hp1; omega)]
      case measure => omega
     ·obtain rfl : gk = 0 := by omega
      obtain rfl : bl = j := by omega
      obtain ⟨w7, rfl⟩ : ∃ w7, w7 = wr := ⟨wr, rfl⟩
      have hys : runL xs ((f ++ p).take bl) = runL xs (f ++ p) := by rw [List.take_of_length_le (by rw [HBGL.out]; omega)]
      have hgl2 : (runL xs (f ++ p)).length = Lb := HCB.out.2
      have hrd7 := HRD.out
      have hbx7 := HQ.out
      have hfew := HRUF.out bl
      rw [hys, hgl2] at hrd7 hbx7 hfew
      have HRD7 := hid hrd7
      have HQ7 := hid hbx7
      have HFEW := hid hfew
      clear hys hgl2 hrd7 hbx7 hfew HQ HRD
      have HBL7 := hid (HBL.out.trans ((HB4w.out.trans (HB.out.mono (by omega))).mono (by omega)))
      have HBW7 := hid (HB2.out.trans (HBL7.out.mono (by omega)))
      have HY7 := hid (HY2.out.below HBL7.out HY2.out.lt)
      have HC1 := hid (fun p1 : LaterOf w7 => later_call p1 (HRW.out ida na (.slice ya Lb yc) (runL xs (f ++ p)) p1.W ((HRD7.out.keep (w' := p1.W) fun p hp => p1.hb.cell (p := p) hp.1).more fun b hb => by show b < p1.W.heap.size; have := hb.1; have := p1.hb.size; omega)))
      have HC2 := hid (fun p1 : LaterOf w7 => later_call p1 (HRW.out idb nb (.slice va Lb vc) ys p1.W (HVB.out p1.W (HBW7.out.trans (p1.hb.mono (by omega))))))
      generalize hrt0 : rowsC (runL xs (f ++ p)) = rt at HC1
      generalize hrb0 : rowsC ys = rb at HC2
      have HRT := hid hrt0
      have HRB := hid hrb0
      clear hrt0 hrb0
      have f0 := fun p : LaterOf w7 => p.cell (v := .int .i64 ida) (HQ7.out.cell 0 rfl)
      have f1 := fun p : LaterOf w7 => p.cell (v := .string na) (HQ7.out.cell 1 rfl)
      have f2 := fun p : LaterOf w7 => p.cell (v := .slice ya Lb yc) (HQ7.out.cell 2 rfl)
      have f3 := fun p : LaterOf w7 => p.cell (v := .int .i64 idb) (HY7.out.cell 0 rfl)
      have f4 := fun p : LaterOf w7 => p.cell (v := .string nb) (HY7.out.cell 1 rfl)
      have f5 := fun p : LaterOf w7 => p.cell (v := .slice va Lb vc) (HY7.out.cell 2 rfl)
      go_upto_region 13 with fail
      refine wp_region_later (by kernel_rfl) (by kernel_rfl) ?_
      repeat (first | go_big_quiet_step ((first | (go_at_call 87; with_reducible exact HC1.out _) | (go_at_call 87; with_reducible exact HC2.out _))) | quiet_step ((first | (go_at_call 87; with_reducible exact HC1.out _) | (go_at_call 87; with_reducible exact HC2.out _))))
      refine wpQuiet_nil ?_
      intro _ hw'
      obtain ⟨p5, hw''⟩ := hw'
      subst hw''
      have hb8 := p5.hb
      generalize p5.W = w8 at *
      have hz8 := hb8.size
      have HBL8 := hid (HBL7.out.trans (hb8.mono (by omega)))
      have HBW8 := hid (HBW7.out.trans (hb8.mono (by omega)))
      have HQ8 := hid (HQ7.out.below hb8 HQ7.out.lt)
      have HY8 := hid (HY7.out.below hb8 HY7.out.lt)
      have HB48 := hid (HB.out.trans (hb8.mono (by omega)))
      have HRD8 := hid ((HRD7.out.keep (w' := w8) fun p hp => hb8.cell (p := p) hp.1))
      clear f0 f1 f2 f3 f4 f5 HC1 HC2 hb8 p5
      by_cases hrt : rt < rb
      ·have HNONE : Hid (finderF xs ys p most f = none) := hid (by
        rw [HFEq.out, if_neg hbig, HRT.out, HRB.out, if_pos hrt])
       go_wp2
       go_roundg (gk - 1)
       case rel => exact ⟨q + 1, by go_num, by omega, by omega, HBL8, hid (HA1.out HNONE.out)⟩
       case measure => omega
      ·go_wp2_with fail
       rw [show decide (rt < rb) = false from decide_eq_false hrt]
       go_loopg [62] ne (fun N i wr => ∃ (k : Nat), i = .int .i64 (k : Int) ∧ k + N = ne ∧ w8.heap.size ≤ wr.heap.size ∧ Hid (Below w8.heap.size w8 wr) ∧ Hid (∀ j, j < k → endF xs ys (f ++ p) most ((endsL Lb).getD j []) = none))
       case atStart => exact ⟨0, rfl, by omega, Nat.le_refl _, hid (Below.refl _ _), hid (fun j h => absurd h (by omega))⟩
       case round =>
        obtain ⟨k, rfl, hk, hl9, HB9, HALL3⟩ := hrel
        obtain ⟨w9, rfl⟩ : ∃ w9, w9 = wr := ⟨wr, rfl⟩
        by_cases hp3 : 0 < gk
        ·have hkn : k < ne := by omega
         have HB29 := hid (HBL8.out.trans (HB9.out.mono (by omega)))
         obtain ⟨eb, eo, ec2, ev, hee, heb, -, -, hec, hpe⟩ := ps_at (HEN2.out.keep (w' := w9) fun p (hp : p.block < w2.heap.size) => HB29.out.cell (p := p) hp) (q := k) (by rw [HNE.out]; exact hkn)
         obtain ⟨rfl, -, rfl⟩ := Value.slice.inj hee
         obtain ⟨ga, gc, rfl⟩ := rdPo_len hpe
         have hmem := HMEE.out k hkn
         have hsh := HEND.out _ hmem
         have hco := ends_cols hmem
         have HA3 : Hid (endF xs ys (f ++ p) most ((endsL Lb).getD k []) = none → ∀ j, j < k + 1 → endF xs ys (f ++ p) most ((endsL Lb).getD j []) = none) := hid (fun h j hj => by
          rcases Nat.lt_or_ge j k with h1 | h1
          ·exact HALL3.out j h1
          ·obtain rfl : j = k := by omega
           exact h)
         have HCANE := hid (can_ends (xs := runL xs (f ++ p)) (e := (endsL Lb).getD k []) (by rw [HCB.out.2]; exact hmem))
         have HGE0 : (endsL Lb).getD k [] = (endsL Lb).getD k [] := rfl
         generalize hge : (endsL Lb).getD k [] = e at HA3 HCANE hpe hec hsh HGE0 hco
         have HGE := hid hge
         have HECO := hid hco
         generalize hel : e.length = el at *
         have HEL := hid hel
         clear hee hmem HGE0 hge hel hco
         by_cases heq : bl + el = most
         ·have HEQ := hid heq
          have hne0 : ((bl : Int) + (el : Int) != (most : Int)) = false := by simp; omega
          have hbm := Nat.le_of_eq heq
          clear heq
          have HPE := hid hpe
          have HRUE := hid (run_ok e (runL xs (f ++ p)) HFEW.out.1 (by rw [HCB.out.2]; exact hlb) HCANE.out)
          have HLA := hid (fun j (hj : j < el) W (hW : Below w9.heap.size w9 W) => rdPo_at ((HPE.out.keep (w' := W) fun p (hp : p.block < w2.heap.size) => hW.cell (p := p) (by omega)).more (S' := (· < w9.heap.size)) fun b (hb : b < w2.heap.size) => by show b < w9.heap.size; omega) (q := j) (by rw [HEL.out]; exact hj))
          have HQ9 := hid (HQ8.out.below HB9.out HQ8.out.lt)
          have q0 := HQ9.out.cell 0 rfl
          have q1 := HQ9.out.cell 1 rfl
          have q2 := HQ9.out.cell 2 rfl
          have HL0 := hid ((Below.refl w9.heap.size w9).alloc (Nat.le_refl _) (.cells #[.int .i64 ida, .string na, .slice ya Lb yc] 51))
          have HLT := hid (BoxN.new w9 #[.int .i64 ida, .string na, .slice ya Lb yc] 51)
          have hz10 : (w9.alloc (.cells #[.int .i64 ida, .string na, .slice ya Lb yc] 51)).heap.size = w9.heap.size + 1 := by simp
          have HLR : Hid (RdCo (w9.alloc (.cells #[.int .i64 ida, .string na, .slice ya Lb yc] 51)) (fun b => b < (w9.alloc (.cells #[.int .i64 ida, .string na, .slice ya Lb yc] 51)).heap.size ∧ b ≠ w9.heap.size) (.slice ya Lb yc) (runL (runL xs (f ++ p)) (e.take 0))) := hid ((HRD8.out.keep (fun p hp => (World.cell?_alloc_lt _ _ _ (by have := hp.1; omega)).trans (HB9.out.cell (p := p) (by have := hp.1; omega)))).more fun b hb => ⟨by have := hb.1; simp; omega, by have := hb.1; omega⟩)
          go_wp2_with fail
          generalize w9.alloc (.cells #[.int .i64 ida, .string na, .slice ya Lb yc] 51) = W10 at *
          have hz10a := Nat.le_of_eq hz10
          have hz10b := Nat.le_of_eq hz10.symm
          clear hz10 q0 q1 q2 hec
          go_loopg [76] el (fun N i wr => ∃ (j : Nat) (y : Value), i = .int .i64 (j : Int) ∧ j + N = el ∧ w9.heap.size < wr.heap.size ∧ Hid (Below w9.heap.size w9 wr) ∧ Hid (BoxN wr w9.heap.size 51 #[.int .i64 ida, .string na, y]) ∧ Hid (RdCo wr (fun b => b < wr.heap.size ∧ b ≠ w9.heap.size) y (runL (runL xs (f ++ p)) (e.take j))))
          case atStart => exact ⟨0, _, rfl, by omega, by omega, HL0, HLT, HLR⟩
          case round =>
           obtain ⟨j, y, rfl, hj, hlw, HB, HQ, HRD⟩ := hrel
           obtain ⟨ya, yc, rfl⟩ := rdCo_len HRD.out
           by_cases hp : 0 < gk
           ·have hjm : j < el := by omega
            obtain ⟨b, o, c, uv, hl, hb, hks, -, -, k0, k1, k2, k3⟩ := HLA.out j hjm wr HB.out
            obtain ⟨rfl, -, rfl⟩ := Value.slice.inj hl
            have hbB : b < w9.heap.size := hb
            obtain ⟨oa, oc, rfl⟩ : ∃ a c, uv = .slice a (e.getD j Po.z).cols.length c := by
             obtain ⟨a, c, e, -⟩ := hks
             exact ⟨a, c, e⟩
            have HKS := hid hks
            obtain ⟨hr1, hr2, hr3⟩ := HRUE.out j
            have HDQ := hid (fun y u W hy hu => HDO.out (runL (runL xs (f ++ p)) (e.take j)) (e.getD j Po.z) y u W hy hu hr1 hr2 (hr3 (by rw [HEL.out]; exact hjm)))
            have HSNq := hid (run_snoc (runL xs (f ++ p)) (os := e) (q := j) (by rw [HEL.out]; exact hjm))
            clear hl hks hr1 hr2 hr3
            generalize runL (runL xs (f ++ p)) (e.take j) = ys2 at *
            generalize e.getD j Po.z = P at *
            obtain ⟨kind, col, text, cols⟩ := P
            simp only [Po.val] at HDQ
            simp only at k0 k1 k2 k3 HKS
            generalize cols.length = kl at *
            have HO4 := hid (BoxN.new wr #[.int .i64 kind, .int .i64 col, .string text, .slice oa kl oc] 122)
            have HQ4 := hid (HQ.out.alloc (.cells #[.int .i64 kind, .int .i64 col, .string text, .slice oa kl oc] 122))
            have HB4 := hid (HB.out.alloc (by omega) (.cells #[.int .i64 kind, .int .i64 col, .string text, .slice oa kl oc] 122))
            have hz4 : (wr.alloc (.cells #[.int .i64 kind, .int .i64 col, .string text, .slice oa kl oc] 122)).heap.size = wr.heap.size + 1 := by simp
            have HRD4 : Hid (RdCo (wr.alloc (.cells #[.int .i64 kind, .int .i64 col, .string text, .slice oa kl oc] 122)) (· < wr.heap.size) (.slice ya ys2.length yc) ys2) := hid ((HRD.out.keep (fun p hp => World.cell?_alloc_lt _ _ _ hp.1)).more fun b hb => hb.1)
            have HKS4 : Hid (RdKs (wr.alloc (.cells #[.int .i64 kind, .int .i64 col, .string text, .slice oa kl oc] 122)) (· < wr.heap.size) (.slice oa kl oc) cols) := hid ((HKS.out.keep (fun p (hp : p.block < w9.heap.size) => World.cell?_alloc_lt _ _ _ (by omega))).more fun b (hb : b < w9.heap.size) => by show b < wr.heap.size; omega)
            have q0 := HQ4.out.cell 0 rfl
            have q1 := HQ4.out.cell 1 rfl
            have q2 := HQ4.out.cell 2 rfl
            have o0 := HO4.out.cell 0 rfl
            have o1 := HO4.out.cell 1 rfl
            have o2 := HO4.out.cell 2 rfl
            have o3 := HO4.out.cell 3 rfl
            go_wp2_with fail
            generalize wr.alloc (.cells #[.int .i64 kind, .int .i64 col, .string text, .slice oa kl oc] 122) = W4 at *
            have hz4a := Nat.le_of_eq hz4
            have hz4b := Nat.le_of_eq hz4.symm
            clear hz4 k0 k1 k2 k3
            with_reducible refine (HDQ.out (.slice ya ys2.length yc) (.slice oa kl oc) W4 (HRD4.out.more fun b (hb : b < wr.heap.size) => by show b < W4.heap.size; omega) (HKS4.out.more fun b (hb : b < wr.heap.size) => by show b < W4.heap.size; omega)).mono ?_
            rintro e w6 ⟨z, rfl, hco6, hb6⟩
            have hz6 := hb6.size
            have HB6 := hid (HB4.out.trans (hb6.mono (by omega)))
            have HQ6 := hid (HQ4.out.below hb6 HQ4.out.lt)
            have hrd6 := hco6.read
            have HRD6 := hid hrd6
            obtain ⟨za, zc, rfl⟩ := rdCo_len hrd6
            clear q0 q1 q2 o0 o1 o2 o3 hb6 HDQ hco6 hrd6
            have q0 := HQ6.out.cell 0 rfl
            have q1 := HQ6.out.cell 1 rfl
            have q2 := HQ6.out.cell 2 rfl
            have f0 := HQ6.out.frozen 0
            have f1 := HQ6.out.frozen 1
            have f2 := HQ6.out.frozen 2
            go_wp2_with fail
            go_roundg (gk - 1)
            case rel =>
             refine ⟨j + 1, _, by go_num, by omega, by simp; omega, hid (((HB6.out.setCell (Nat.le_refl _) _).setCell (Nat.le_refl _) _).setCell (Nat.le_refl _) _), hid (((HQ6.out.set 0 _).set 1 _).set 2 _), hid ?_⟩
             rw [HSNq.out]
             refine (HRD6.out.keep fun p hp => ?_).more fun b hb => ⟨by have := hb.2; simpa using this, by have := hb.1; omega⟩
             have hp1 := hp.1
             rw [World.cell?_setCell_other _ _ _ _ (by intro e; subst e; simp at hp1; omega), World.cell?_setCell_other _ _ _ _ (by intro e; subst e; simp at hp1; omega), World.cell?_setCell_other _ _ _ _ (by intro e; subst e; simp at hp1; omega)]
            case measure => omega
           ·obtain rfl : gk = 0 := by omega
            obtain rfl : el = j := by omega
            obtain ⟨w11, rfl⟩ : ∃ w11, w11 = wr := ⟨wr, rfl⟩
            have hrd11 : RdCo w11 (· < w11.heap.size) (.slice ya (runL (runL xs (f ++ p)) (e.take el)).length yc) (runL (runL xs (f ++ p)) e) := by
             have h := HRD.out
             rw [show e.take el = e from List.take_of_length_le (by rw [HEL.out]; omega)] at h ⊢
             exact h.more fun b hb => hb.1
            have HB11 := hid (HB9.out.trans (HB.out.mono (by omega)))
            have HBW11 := hid (HBW8.out.trans (HB11.out.mono (by omega)))
            have HALq := hid (HAL.out _ _ w11 HBW11.out hrd11)
            have HYR := hid (HY8.out.below HB11.out HY8.out.lt)
            have HEFE : Hid (endF xs ys (f ++ p) most e = if runL (runL xs (f ++ p)) e = ys then some (f ++ p ++ e) else none) := hid (by
             unfold endF
             rw [HBGL.out, HEL.out]
             by_cases h : runL (runL xs (f ++ p)) e = ys
             ·rw [if_pos ⟨HEQ.out, h⟩, if_pos h]
             ·rw [if_neg (fun hh => h hh.2), if_neg h])
            clear hrd11
            generalize (runL (runL xs (f ++ p)) (e.take el)).length = zl at *
            have q0 := HQ.out.cell 0 rfl
            have q1 := HQ.out.cell 1 rfl
            have q2 := HQ.out.cell 2 rfl
            have y0 := HYR.out.cell 0 rfl
            have y1 := HYR.out.cell 1 rfl
            have y2 := HYR.out.cell 2 rfl
            generalize hR : decide (runL (runL xs (f ++ p)) e = ys) = R at *
            go_wp2_with fail
            with_reducible refine HALq.out.mono ?_
            rintro e2 w12 ⟨rfl, hb12⟩
            have hz12 := hb12.size
            have HB12 := hid (HB11.out.trans (hb12.mono (by omega)))
            have HBW12 := hid (HBW8.out.trans (HB12.out.mono (by omega)))
            have HB129 := hid (HB.out.trans (hb12.mono (by omega)))
            clear hb12 q0 q1 q2 y0 y1 y2
            cases R with
            | false =>
             have HNE2 : Hid (endF xs ys (f ++ p) most e = none) := hid (by rw [HEFE.out, if_neg (of_decide_eq_false hR)])
             clear hR
             go_wp2
             go_roundg (gk - 1)
             case rel => exact ⟨k + 1, by go_num, by omega, by omega, HB12, hid (HA3.out HNE2.out)⟩
             case measure => omega
            | true =>
             have HYE : Hid (finderF xs ys p most f = some (f ++ p ++ e)) := hid (by
              rw [HFEq.out, if_neg hbig, HRT.out, HRB.out, if_neg hrt]
              exact findSome_at [] _ _ k _ (by rw [HNE.out]; exact hkn) HALL3.out (by rw [HGE.out, HEFE.out, if_pos (of_decide_eq_true hR)]))
             have HFOUND : Hid (FL = some (f ++ p ++ e)) := hid (HFS.out q _ hqn HALL.out (by rw [HGF.out]; exact HYE.out))
             clear hR
             have HBG12 := hid (HB48.out.trans (HB12.out.mono (by have := HB48.out.size; omega)))
             have HRW12 := hid (own_later HROW4.out HBG12.out)
             have hpo12 := (HPE.out.keep (w' := w12) fun p (hp : p.block < w2.heap.size) => HB129.out.cell (p := p) (by omega)).more (S' := (· < w12.heap.size)) fun b (hb : b < w2.heap.size) => by show b < w12.heap.size; have := HB129.out.size; omega
             obtain ⟨ue, ⟨_, _, e1, -, he2, her⟩, hek⟩ := hpo12
             obtain ⟨rfl, -, rfl⟩ := Value.slice.inj e1
             have HEK := hid hek
             have HCE2 : Hid (0 < el → ∃ ad, ga = some ad ∧ ∀ j u, (flatK 4 e.length (poF e ue))[j]? = some u → w12.cell? (ad.add j) = some u) := hid (fun h0 => by
              obtain ⟨b, o, e2, hb, hc⟩ := her (by rw [HEL.out]; exact h0)
              exact ⟨_, e2, flat_cells (w := w12) (w' := w12) (by omega) hc (fun p hp => rfl)⟩)
             have HON2 := hid (flat_one (k := 4) (by omega) (po_one hek))
             have HFK2 : Hid ((flatK 4 e.length (poF e ue)).length = el * 4) := hid (by rw [flatK_len, HEL.out])
             obtain ⟨nw2, hnw2⟩ : ∃ nw2, nw2 = flatK 4 e.length (poF e ue) := ⟨_, rfl⟩
             rw [← hnw2] at HCE2 HON2 HFK2
             have HNW2 := hid hnw2
             obtain ⟨tl, htl⟩ : ∃ tl, bl + el = tl := ⟨_, rfl⟩
             have HTL := hid htl
             have htl2 := Nat.le_of_eq htl
             clear e1 her hek hnw2 htl
             unfold maxLen at he2
             go_wp2_with (at_builtin; refine wpList_append_any rfl _ _ 74 74 rfl wo.heap.size 122 122 j0 (.agg #[.int .i64 0, .int .i64 0, .string ⟨#[]⟩, .slice none 0 0]) 4 56 Tryz.underlying74 Tryz.underlying74 hj0 hy0 hy1 hy2 rfl (by decide) a4 bl c4 _ rfl HRW12.out ga el gc nw2 rfl HFK2.out HCE2.out HON2.out (by unfold maxLen; omega) (by omega) (by omega) tl HTL.out ?_; intro a13 c13 w13 hown13 hg13; have HOWN13 := hid hown13; have HG13 := hid hg13; clear hown13 hg13)
             go_wp2
             refine bodyPost_ret (v := .tuple #[.slice a13 tl c13, .bool true]) (by simp [results, Tryz.results103, go_sem]) rfl ?_
             unfold FoundP
             rw [HFOUND.out]
             have hgs := HG13.out.size
             have hown13 := HOWN13.out
             have hown13' : w13.ownsRow wo.heap.size 122 4 (.slice a13 tl c13) ((f ++ p).length + e.length) (flatK 4 (f ++ p).length (poF (f ++ p) uw) ++ flatK 4 e.length (poF e ue)) := by
              rw [HNW2.out] at hown13
              rw [HBGL.out, HEL.out, HTL.out]
              rw [HEL.out] at hown13
              exact hown13
             obtain ⟨hpf, -⟩ := po_append (S := (· < w13.heap.size)) (S2 := (· < w.heap.size)) hown13' (fun b hb => (hown13.lt b hb).2) (fun b (hb : b < w.heap.size) => by show b < w13.heap.size; omega) (fun i hi => (HKW.out i (by rw [← HBGL.out]; exact hi)).keep (w' := w13) fun p (hp : p.block < w.heap.size) => World.cell?_of_block ((HG13.out.block p.block (by omega) (fun e => by have := (HROW4.out.lt _ e.symm).1; omega)).trans (HBG12.out.block _ (by omega)))) (fun i hi => ks_empty (HECO.out _ (getD_mem hi Po.z)) (HEK.out i hi))
             exact ⟨_, rfl, hpf, HBW12.out.grown HG13.out (by omega) (fun k hk => by have := (HROW4.out.lt k hk).1; omega)⟩
         ·have HNE2 : Hid (endF xs ys (f ++ p) most e = none) := hid (by
           unfold endF
           rw [HBGL.out, HEL.out, if_neg (fun hh => heq hh.1)])
          have hne0 : ((bl : Int) + (el : Int) != (most : Int)) = true := by simp; omega
          go_wp2
          go_roundg (gk - 1)
          case rel => exact ⟨k + 1, by go_num, by omega, by omega, HB9, hid (HA3.out HNE2.out)⟩
          case measure => omega
        ·obtain rfl : gk = 0 := by omega
         obtain rfl : k = ne := by omega
         have HNONE : Hid (finderF xs ys p most f = none) := hid (by
          rw [HFEq.out, if_neg hbig, HRT.out, HRB.out, if_neg hrt]
          exact findSome_nil [] _ _ (by rw [HNE.out]; exact HALL3.out))
         have HB29 := hid (HBL8.out.trans (HB9.out.mono (by omega)))
         go_wp2
         go_roundg (gk - 1)
         case rel => exact ⟨q + 1, by go_num, by omega, by omega, HB29, hid (HA1.out HNONE.out)⟩
         case measure => omega
  ·obtain rfl : gk = 0 := by omega
   obtain rfl : q = nf := by omega
   have HFR := hid (HFN.out HALL.out)
   go_wp2
   refine bodyPost_ret (v := .tuple #[.slice none 0 0, .bool false]) (by simp [results, Tryz.results103, go_sem]) rfl ?_
   unfold FoundP
   rw [HFR.out]
   exact ⟨_, rfl, RdPo.nil, HBW.out⟩
end Go.Proofs.YtaajpliifdlokaaGreatDoor
